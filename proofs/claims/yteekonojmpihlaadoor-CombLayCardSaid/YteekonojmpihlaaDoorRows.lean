/-
  NARROWER THAN 'FOR EVERY INPUT', by the rows' own cells (each row's printed sentence says how): NamesBook: loops, laid · NamesSpread: loops, laid · NamesAgain: loops, laid · CombSlots: laid · CombAgain: laid · CombLay: laid · CombAt: laid · TreeNames: laid · TreeBounds: laid · TreeTells: loops, laid · TreeSame: loops, laid.
  DERIVED. THE GIVEN ROWS OF THIS SEAT. 11 by the template 'for every input the law returns true; each argument reads behind the call as it read before'; 0 by the template 'total and deterministic' (their statements: YteekonojmpihlaaDoorTotals.lean).
  GIVEN WITH THE SEED: the statements are not yours to turn. If you find one false, say at which input.
  Laid BY PROGRAM, IN A SANDBOX (cutbox-rows.mjs): the forced cells as the released guide's own fill.sh prints them over the translation 7802d3747be0b82a… (all of the seat's roots in one cut). By AI agents, Wed Nov 11 2026. No macro, syntax, notation, axiom, sorry.
-/
import Derived.Test.YteekonojmpihlaaDoorChecked
import GoSem.Claim
import GoSem.ClaimJoined
import GoSem.ClaimMapViews
import Derived.JoinedTies
import Derived.KernelRfl
namespace Go.Proofs.YteekonojmpihlaaDoor
/- THE CELL 'sum', in the pinned program and in every row, IS THE sha256 OF THE DUMP (.gsa) THAT YteekonojmpihlaaDoorProg.lean LOADS. Nothing in Lean hashes anything: it is a label: what it is worth is what the hold of that sum in a sandbox is worth. -/
noncomputable def Tryd.pinned : Pinned := { name := "yteekonojmpihlaadoor", sum := "7802d3747be0b82a321ab3605a67cfd89126a034d6b72a2cea4f55f99aa38163", checked := Tryd.checked }
namespace Rows
def none {H : Type} : Left H := { results := [], args := [] }

/- WHAT THE LISTED PACKAGE-LEVEL VARIABLES READ AS WHEN THE CALL BEGINS. Each datum BY PROGRAM (the guide's laid-datum.mjs) off the statement by which the dump's own 'gosem.cut.vars' lays the variable. In a bare row this is a premise. The card (YteekonojmpihlaaDoorCards.lean) ties it to the program's text. -/
def laid_doffer_api_ErrRange {H : Type} : DataW H := .iface "*errors.errorString" (.ptr (.agg [.lit (.string [97, 32, 110, 117, 109, 98, 101, 114, 32, 105, 115, 32, 111, 117, 116, 32, 111, 102, 32, 105, 116, 115, 32, 114, 97, 110, 103, 101])]))
def laid_doffer_api_ErrShort {H : Type} : DataW H := .iface "*errors.errorString" (.ptr (.agg [.lit (.string [115, 111, 109, 101, 116, 104, 105, 110, 103, 32, 105, 115, 32, 109, 105, 115, 115, 105, 110, 103])]))
def laid_doffer_api_ErrLong {H : Type} : DataW H := .iface "*errors.errorString" (.ptr (.agg [.lit (.string [116, 104, 101, 114, 101, 32, 105, 115, 32, 109, 111, 114, 101, 32, 116, 104, 97, 110, 32, 109, 97, 121, 32, 98, 101])]))
def laid_doffer_api_ErrForm {H : Type} : DataW H := .iface "*errors.errorString" (.ptr (.agg [.lit (.string [105, 116, 32, 105, 115, 32, 110, 111, 116, 32, 111, 102, 32, 105, 116, 115, 32, 102, 111, 114, 109])]))
def laid_doffer_api_ErrName {H : Type} : DataW H := .iface "*errors.errorString" (.ptr (.agg [.lit (.string [116, 104, 101, 114, 101, 32, 105, 115, 32, 110, 111, 32, 115, 117, 99, 104, 32, 110, 97, 109, 101])]))
def laid_doffer_api_ErrDup {H : Type} : DataW H := .iface "*errors.errorString" (.ptr (.agg [.lit (.string [116, 104, 101, 114, 101, 32, 105, 115, 32, 111, 110, 101, 32, 97, 108, 114, 101, 97, 100, 121])]))
def laid_doffer_api_ErrDepth {H : Type} : DataW H := .iface "*errors.errorString" (.ptr (.agg [.lit (.string [105, 116, 32, 105, 115, 32, 110, 101, 115, 116, 101, 100, 32, 116, 111, 111, 32, 100, 101, 101, 112])]))
def laid_doffer_api_ErrLoop {H : Type} : DataW H := .iface "*errors.errorString" (.ptr (.agg [.lit (.string [110, 97, 109, 101, 115, 32, 117, 115, 101, 32, 111, 110, 101, 32, 97, 110, 111, 116, 104, 101, 114, 32, 105, 110, 32, 97, 32, 114, 105, 110, 103])]))
def laid_doffer_api_ErrLimit {H : Type} : DataW H := .iface "*errors.errorString" (.ptr (.agg [.lit (.string [105, 116, 32, 103, 114, 111, 119, 115, 32, 98, 101, 121, 111, 110, 100, 32, 105, 116, 115, 32, 108, 105, 109, 105, 116])]))
def laid_doffer_api_ErrSum {H : Type} : DataW H := .iface "*errors.errorString" (.ptr (.agg [.lit (.string [116, 104, 101, 32, 99, 104, 101, 99, 107, 32, 115, 117, 109, 32, 105, 115, 32, 110, 111, 116, 32, 114, 105, 103, 104, 116])]))
def laid_doffer_api_ErrVersion {H : Type} : DataW H := .iface "*errors.errorString" (.ptr (.agg [.lit (.string [105, 116, 32, 105, 115, 32, 111, 102, 32, 97, 110, 111, 116, 104, 101, 114, 32, 118, 101, 114, 115, 105, 111, 110])]))
def laid_doffer_api_ErrIndex {H : Type} : DataW H := .iface "*errors.errorString" (.ptr (.agg [.lit (.string [97, 32, 112, 108, 97, 99, 101, 32, 105, 115, 32, 111, 117, 116, 32, 111, 102, 32, 98, 111, 117, 110, 100, 115])]))
def laid_doffer_api_ErrFull {H : Type} : DataW H := .iface "*errors.errorString" (.ptr (.agg [.lit (.string [116, 104, 101, 114, 101, 32, 105, 115, 32, 110, 111, 32, 114, 111, 111, 109])]))
def laid_doffer_api_ErrCredit {H : Type} : DataW H := .iface "*errors.errorString" (.ptr (.agg [.lit (.string [116, 104, 101, 32, 99, 114, 101, 100, 105, 116, 32, 105, 115, 32, 117, 115, 101, 100, 32, 117, 112])]))
def laid_doffer_api_ErrNone {H : Type} : DataW H := .iface "*errors.errorString" (.ptr (.agg [.lit (.string [116, 104, 101, 114, 101, 32, 105, 115, 32, 110, 111, 110, 101])]))
def laid_doffer_api_ErrState {H : Type} : DataW H := .iface "*errors.errorString" (.ptr (.agg [.lit (.string [105, 116, 32, 99, 97, 110, 32, 110, 111, 116, 32, 98, 101, 32, 100, 111, 110, 101, 32, 110, 111, 119])]))
def laid_doffer_api_ErrParked {H : Type} : DataW H := .iface "*errors.errorString" (.ptr (.agg [.lit (.string [105, 116, 32, 119, 97, 105, 116, 115, 32, 102, 111, 114, 32, 105, 116, 115, 32, 111, 117, 116, 112, 117, 116, 32, 116, 111, 32, 98, 101, 32, 116, 97, 107, 101, 110])]))
def laid_doffer_api_ErrTag {H : Type} : DataW H := .iface "*errors.errorString" (.ptr (.agg [.lit (.string [97, 110, 111, 116, 104, 101, 114, 32, 107, 105, 110, 100, 32, 105, 115, 32, 119, 97, 110, 116, 101, 100])]))
def laid_math_bits_deBruijn64tab {H : Type} : DataW H := .agg [.lit (.int .u8 0), .lit (.int .u8 1), .lit (.int .u8 56), .lit (.int .u8 2), .lit (.int .u8 57), .lit (.int .u8 49), .lit (.int .u8 28), .lit (.int .u8 3), .lit (.int .u8 61), .lit (.int .u8 58), .lit (.int .u8 42), .lit (.int .u8 50), .lit (.int .u8 38), .lit (.int .u8 29), .lit (.int .u8 17), .lit (.int .u8 4), .lit (.int .u8 62), .lit (.int .u8 47), .lit (.int .u8 59), .lit (.int .u8 36), .lit (.int .u8 45), .lit (.int .u8 43), .lit (.int .u8 51), .lit (.int .u8 22), .lit (.int .u8 53), .lit (.int .u8 39), .lit (.int .u8 33), .lit (.int .u8 30), .lit (.int .u8 24), .lit (.int .u8 18), .lit (.int .u8 12), .lit (.int .u8 5), .lit (.int .u8 63), .lit (.int .u8 55), .lit (.int .u8 48), .lit (.int .u8 27), .lit (.int .u8 60), .lit (.int .u8 41), .lit (.int .u8 37), .lit (.int .u8 16), .lit (.int .u8 46), .lit (.int .u8 35), .lit (.int .u8 44), .lit (.int .u8 21), .lit (.int .u8 52), .lit (.int .u8 32), .lit (.int .u8 23), .lit (.int .u8 11), .lit (.int .u8 54), .lit (.int .u8 26), .lit (.int .u8 40), .lit (.int .u8 15), .lit (.int .u8 34), .lit (.int .u8 20), .lit (.int .u8 31), .lit (.int .u8 10), .lit (.int .u8 25), .lit (.int .u8 14), .lit (.int .u8 19), .lit (.int .u8 9), .lit (.int .u8 13), .lit (.int .u8 8), .lit (.int .u8 7), .lit (.int .u8 6)]

/-- 'dofferlaw11.NamesBook': WHATEVER THE INPUT: true; the input reads as it did. -/
def namesBookSpec : ChangeSpec := { name := "namesBook", fn := fun _ => fun
  | [d1, d2] => { results := [.lit (.bool true)], args := [d1, d2] }
  | _ => none }
def namesBookRow : OpenClaim := { program := "yteekonojmpihlaadoor", sum := "7802d3747be0b82a321ab3605a67cfd89126a034d6b72a2cea4f55f99aa38163", func := "doffer/dofferlaw11.NamesBook", spec := "namesBook", inPlace := ["internal/reflectlite.TypeOf", "maps.clone"], unfollowed := true, recurses := true, named := ["doffer/api.ErrName", "doffer/api.ErrForm", "doffer/api.ErrDup", "doffer/api.ErrFull", "doffer/api.ErrDepth", "doffer/api.ErrLimit", "doffer/api.ErrNone", "doffer/api.ErrLoop", "doffer/api.ErrRange", "doffer/api.ErrShort", "doffer/api.ErrLong", "doffer/api.ErrSum", "doffer/api.ErrVersion", "doffer/api.ErrIndex", "doffer/api.ErrCredit", "doffer/api.ErrState", "doffer/api.ErrParked", "doffer/api.ErrTag"], loops := true, apart := false, laid := [("doffer/api.ErrRange", laid_doffer_api_ErrRange), ("doffer/api.ErrShort", laid_doffer_api_ErrShort), ("doffer/api.ErrLong", laid_doffer_api_ErrLong), ("doffer/api.ErrForm", laid_doffer_api_ErrForm), ("doffer/api.ErrName", laid_doffer_api_ErrName), ("doffer/api.ErrDup", laid_doffer_api_ErrDup), ("doffer/api.ErrDepth", laid_doffer_api_ErrDepth), ("doffer/api.ErrLoop", laid_doffer_api_ErrLoop), ("doffer/api.ErrLimit", laid_doffer_api_ErrLimit), ("doffer/api.ErrSum", laid_doffer_api_ErrSum), ("doffer/api.ErrVersion", laid_doffer_api_ErrVersion), ("doffer/api.ErrIndex", laid_doffer_api_ErrIndex), ("doffer/api.ErrFull", laid_doffer_api_ErrFull), ("doffer/api.ErrCredit", laid_doffer_api_ErrCredit), ("doffer/api.ErrNone", laid_doffer_api_ErrNone), ("doffer/api.ErrState", laid_doffer_api_ErrState), ("doffer/api.ErrParked", laid_doffer_api_ErrParked), ("doffer/api.ErrTag", laid_doffer_api_ErrTag)] }
def NamesBookSaid : Prop := namesBookRow.holds Tryd.pinned (OpenSpec.ofChange namesBookSpec)

/-- ITS FALSE NEIGHBOUR: 'it returns false'. Refute it at one input. -/
def namesBookWrong : ChangeSpec := { name := "namesBook", fn := fun _ => fun
  | [d1, d2] => { results := [.lit (.bool false)], args := [d1, d2] }
  | _ => none }
def NamesBookWrongFalsely : Prop := namesBookRow.holds Tryd.pinned (OpenSpec.ofChange namesBookWrong)

/-- 'dofferlaw11.NamesSpread': WHATEVER THE INPUT: true; the input reads as it did. -/
def namesSpreadSpec : ChangeSpec := { name := "namesSpread", fn := fun _ => fun
  | [d1, d2] => { results := [.lit (.bool true)], args := [d1, d2] }
  | _ => none }
def namesSpreadRow : OpenClaim := { program := "yteekonojmpihlaadoor", sum := "7802d3747be0b82a321ab3605a67cfd89126a034d6b72a2cea4f55f99aa38163", func := "doffer/dofferlaw11.NamesSpread", spec := "namesSpread", inPlace := ["internal/reflectlite.TypeOf"], unfollowed := true, recurses := true, named := ["doffer/api.ErrName", "doffer/api.ErrForm", "doffer/api.ErrDup", "doffer/api.ErrFull", "doffer/api.ErrDepth", "doffer/api.ErrLimit", "doffer/api.ErrNone", "doffer/api.ErrLoop", "doffer/api.ErrRange", "doffer/api.ErrShort", "doffer/api.ErrLong", "doffer/api.ErrSum", "doffer/api.ErrVersion", "doffer/api.ErrIndex", "doffer/api.ErrCredit", "doffer/api.ErrState", "doffer/api.ErrParked", "doffer/api.ErrTag"], loops := true, apart := false, laid := [("doffer/api.ErrRange", laid_doffer_api_ErrRange), ("doffer/api.ErrShort", laid_doffer_api_ErrShort), ("doffer/api.ErrLong", laid_doffer_api_ErrLong), ("doffer/api.ErrForm", laid_doffer_api_ErrForm), ("doffer/api.ErrName", laid_doffer_api_ErrName), ("doffer/api.ErrDup", laid_doffer_api_ErrDup), ("doffer/api.ErrDepth", laid_doffer_api_ErrDepth), ("doffer/api.ErrLoop", laid_doffer_api_ErrLoop), ("doffer/api.ErrLimit", laid_doffer_api_ErrLimit), ("doffer/api.ErrSum", laid_doffer_api_ErrSum), ("doffer/api.ErrVersion", laid_doffer_api_ErrVersion), ("doffer/api.ErrIndex", laid_doffer_api_ErrIndex), ("doffer/api.ErrFull", laid_doffer_api_ErrFull), ("doffer/api.ErrCredit", laid_doffer_api_ErrCredit), ("doffer/api.ErrNone", laid_doffer_api_ErrNone), ("doffer/api.ErrState", laid_doffer_api_ErrState), ("doffer/api.ErrParked", laid_doffer_api_ErrParked), ("doffer/api.ErrTag", laid_doffer_api_ErrTag)] }
def NamesSpreadSaid : Prop := namesSpreadRow.holds Tryd.pinned (OpenSpec.ofChange namesSpreadSpec)

/-- ITS FALSE NEIGHBOUR: 'it returns false'. Refute it at one input. -/
def namesSpreadWrong : ChangeSpec := { name := "namesSpread", fn := fun _ => fun
  | [d1, d2] => { results := [.lit (.bool false)], args := [d1, d2] }
  | _ => none }
def NamesSpreadWrongFalsely : Prop := namesSpreadRow.holds Tryd.pinned (OpenSpec.ofChange namesSpreadWrong)

/-- 'dofferlaw11.NamesAgain': WHATEVER THE INPUT: true; the input reads as it did. -/
def namesAgainSpec : ChangeSpec := { name := "namesAgain", fn := fun _ => fun
  | [d1, d2] => { results := [.lit (.bool true)], args := [d1, d2] }
  | _ => none }
def namesAgainRow : OpenClaim := { program := "yteekonojmpihlaadoor", sum := "7802d3747be0b82a321ab3605a67cfd89126a034d6b72a2cea4f55f99aa38163", func := "doffer/dofferlaw11.NamesAgain", spec := "namesAgain", inPlace := ["internal/reflectlite.TypeOf"], unfollowed := true, recurses := true, named := ["doffer/api.ErrName", "doffer/api.ErrForm", "doffer/api.ErrDup", "doffer/api.ErrFull", "doffer/api.ErrDepth", "doffer/api.ErrLimit", "doffer/api.ErrNone", "doffer/api.ErrLoop", "doffer/api.ErrRange", "doffer/api.ErrShort", "doffer/api.ErrLong", "doffer/api.ErrSum", "doffer/api.ErrVersion", "doffer/api.ErrIndex", "doffer/api.ErrCredit", "doffer/api.ErrState", "doffer/api.ErrParked", "doffer/api.ErrTag"], loops := true, apart := false, laid := [("doffer/api.ErrRange", laid_doffer_api_ErrRange), ("doffer/api.ErrShort", laid_doffer_api_ErrShort), ("doffer/api.ErrLong", laid_doffer_api_ErrLong), ("doffer/api.ErrForm", laid_doffer_api_ErrForm), ("doffer/api.ErrName", laid_doffer_api_ErrName), ("doffer/api.ErrDup", laid_doffer_api_ErrDup), ("doffer/api.ErrDepth", laid_doffer_api_ErrDepth), ("doffer/api.ErrLoop", laid_doffer_api_ErrLoop), ("doffer/api.ErrLimit", laid_doffer_api_ErrLimit), ("doffer/api.ErrSum", laid_doffer_api_ErrSum), ("doffer/api.ErrVersion", laid_doffer_api_ErrVersion), ("doffer/api.ErrIndex", laid_doffer_api_ErrIndex), ("doffer/api.ErrFull", laid_doffer_api_ErrFull), ("doffer/api.ErrCredit", laid_doffer_api_ErrCredit), ("doffer/api.ErrNone", laid_doffer_api_ErrNone), ("doffer/api.ErrState", laid_doffer_api_ErrState), ("doffer/api.ErrParked", laid_doffer_api_ErrParked), ("doffer/api.ErrTag", laid_doffer_api_ErrTag)] }
def NamesAgainSaid : Prop := namesAgainRow.holds Tryd.pinned (OpenSpec.ofChange namesAgainSpec)

/-- ITS FALSE NEIGHBOUR: 'it returns false'. Refute it at one input. -/
def namesAgainWrong : ChangeSpec := { name := "namesAgain", fn := fun _ => fun
  | [d1, d2] => { results := [.lit (.bool false)], args := [d1, d2] }
  | _ => none }
def NamesAgainWrongFalsely : Prop := namesAgainRow.holds Tryd.pinned (OpenSpec.ofChange namesAgainWrong)

/-- 'dofferlaw23.CombSlots': WHATEVER THE INPUT: true; the input reads as it did. -/
def combSlotsSpec : ChangeSpec := { name := "combSlots", fn := fun _ => fun
  | [d] => { results := [.lit (.bool true)], args := [d] }
  | _ => none }
def combSlotsRow : OpenClaim := { program := "yteekonojmpihlaadoor", sum := "7802d3747be0b82a321ab3605a67cfd89126a034d6b72a2cea4f55f99aa38163", func := "doffer/dofferlaw23.CombSlots", spec := "combSlots", unfollowed := true, recurses := true, named := ["doffer/api.ErrForm"], apart := false, laid := [("doffer/api.ErrForm", laid_doffer_api_ErrForm)] }
def CombSlotsSaid : Prop := combSlotsRow.holds Tryd.pinned (OpenSpec.ofChange combSlotsSpec)

/-- ITS FALSE NEIGHBOUR: 'it returns false'. Refute it at one input. -/
def combSlotsWrong : ChangeSpec := { name := "combSlots", fn := fun _ => fun
  | [d] => { results := [.lit (.bool false)], args := [d] }
  | _ => none }
def CombSlotsWrongFalsely : Prop := combSlotsRow.holds Tryd.pinned (OpenSpec.ofChange combSlotsWrong)

/-- 'dofferlaw23.CombAgain': WHATEVER THE INPUT: true; the input reads as it did. -/
def combAgainSpec : ChangeSpec := { name := "combAgain", fn := fun _ => fun
  | [d] => { results := [.lit (.bool true)], args := [d] }
  | _ => none }
def combAgainRow : OpenClaim := { program := "yteekonojmpihlaadoor", sum := "7802d3747be0b82a321ab3605a67cfd89126a034d6b72a2cea4f55f99aa38163", func := "doffer/dofferlaw23.CombAgain", spec := "combAgain", unfollowed := true, recurses := true, named := ["doffer/api.ErrForm"], apart := false, laid := [("doffer/api.ErrForm", laid_doffer_api_ErrForm)] }
def CombAgainSaid : Prop := combAgainRow.holds Tryd.pinned (OpenSpec.ofChange combAgainSpec)

/-- ITS FALSE NEIGHBOUR: 'it returns false'. Refute it at one input. -/
def combAgainWrong : ChangeSpec := { name := "combAgain", fn := fun _ => fun
  | [d] => { results := [.lit (.bool false)], args := [d] }
  | _ => none }
def CombAgainWrongFalsely : Prop := combAgainRow.holds Tryd.pinned (OpenSpec.ofChange combAgainWrong)

/-- 'dofferlaw23.CombLay': WHATEVER THE INPUT: true; the input reads as it did. -/
def combLaySpec : ChangeSpec := { name := "combLay", fn := fun _ => fun
  | [d] => { results := [.lit (.bool true)], args := [d] }
  | _ => none }
def combLayRow : OpenClaim := { program := "yteekonojmpihlaadoor", sum := "7802d3747be0b82a321ab3605a67cfd89126a034d6b72a2cea4f55f99aa38163", func := "doffer/dofferlaw23.CombLay", spec := "combLay", inPlace := ["internal/reflectlite.TypeOf"], unfollowed := true, recurses := true, named := ["doffer/api.ErrForm", "doffer/api.ErrRange", "doffer/api.ErrShort", "doffer/api.ErrLong", "doffer/api.ErrName", "doffer/api.ErrDup", "doffer/api.ErrDepth", "doffer/api.ErrLoop", "doffer/api.ErrLimit", "doffer/api.ErrSum", "doffer/api.ErrVersion", "doffer/api.ErrIndex", "doffer/api.ErrFull", "doffer/api.ErrCredit", "doffer/api.ErrNone", "doffer/api.ErrState", "doffer/api.ErrParked", "doffer/api.ErrTag"], apart := false, laid := [("doffer/api.ErrRange", laid_doffer_api_ErrRange), ("doffer/api.ErrShort", laid_doffer_api_ErrShort), ("doffer/api.ErrLong", laid_doffer_api_ErrLong), ("doffer/api.ErrForm", laid_doffer_api_ErrForm), ("doffer/api.ErrName", laid_doffer_api_ErrName), ("doffer/api.ErrDup", laid_doffer_api_ErrDup), ("doffer/api.ErrDepth", laid_doffer_api_ErrDepth), ("doffer/api.ErrLoop", laid_doffer_api_ErrLoop), ("doffer/api.ErrLimit", laid_doffer_api_ErrLimit), ("doffer/api.ErrSum", laid_doffer_api_ErrSum), ("doffer/api.ErrVersion", laid_doffer_api_ErrVersion), ("doffer/api.ErrIndex", laid_doffer_api_ErrIndex), ("doffer/api.ErrFull", laid_doffer_api_ErrFull), ("doffer/api.ErrCredit", laid_doffer_api_ErrCredit), ("doffer/api.ErrNone", laid_doffer_api_ErrNone), ("doffer/api.ErrState", laid_doffer_api_ErrState), ("doffer/api.ErrParked", laid_doffer_api_ErrParked), ("doffer/api.ErrTag", laid_doffer_api_ErrTag)] }
def CombLaySaid : Prop := combLayRow.holds Tryd.pinned (OpenSpec.ofChange combLaySpec)

/-- ITS FALSE NEIGHBOUR: 'it returns false'. Refute it at one input. -/
def combLayWrong : ChangeSpec := { name := "combLay", fn := fun _ => fun
  | [d] => { results := [.lit (.bool false)], args := [d] }
  | _ => none }
def CombLayWrongFalsely : Prop := combLayRow.holds Tryd.pinned (OpenSpec.ofChange combLayWrong)

/-- 'dofferlaw23.CombAt': WHATEVER THE INPUT: true; the input reads as it did. -/
def combAtSpec : ChangeSpec := { name := "combAt", fn := fun _ => fun
  | [d1, d2, d3] => { results := [.lit (.bool true)], args := [d1, d2, d3] }
  | _ => none }
def combAtRow : OpenClaim := { program := "yteekonojmpihlaadoor", sum := "7802d3747be0b82a321ab3605a67cfd89126a034d6b72a2cea4f55f99aa38163", func := "doffer/dofferlaw23.CombAt", spec := "combAt", inPlace := ["internal/reflectlite.TypeOf"], unfollowed := true, recurses := true, named := ["doffer/api.ErrForm", "doffer/api.ErrRange", "doffer/api.ErrShort", "doffer/api.ErrLong", "doffer/api.ErrName", "doffer/api.ErrDup", "doffer/api.ErrDepth", "doffer/api.ErrLoop", "doffer/api.ErrLimit", "doffer/api.ErrSum", "doffer/api.ErrVersion", "doffer/api.ErrIndex", "doffer/api.ErrFull", "doffer/api.ErrCredit", "doffer/api.ErrNone", "doffer/api.ErrState", "doffer/api.ErrParked", "doffer/api.ErrTag"], apart := false, laid := [("doffer/api.ErrRange", laid_doffer_api_ErrRange), ("doffer/api.ErrShort", laid_doffer_api_ErrShort), ("doffer/api.ErrLong", laid_doffer_api_ErrLong), ("doffer/api.ErrForm", laid_doffer_api_ErrForm), ("doffer/api.ErrName", laid_doffer_api_ErrName), ("doffer/api.ErrDup", laid_doffer_api_ErrDup), ("doffer/api.ErrDepth", laid_doffer_api_ErrDepth), ("doffer/api.ErrLoop", laid_doffer_api_ErrLoop), ("doffer/api.ErrLimit", laid_doffer_api_ErrLimit), ("doffer/api.ErrSum", laid_doffer_api_ErrSum), ("doffer/api.ErrVersion", laid_doffer_api_ErrVersion), ("doffer/api.ErrIndex", laid_doffer_api_ErrIndex), ("doffer/api.ErrFull", laid_doffer_api_ErrFull), ("doffer/api.ErrCredit", laid_doffer_api_ErrCredit), ("doffer/api.ErrNone", laid_doffer_api_ErrNone), ("doffer/api.ErrState", laid_doffer_api_ErrState), ("doffer/api.ErrParked", laid_doffer_api_ErrParked), ("doffer/api.ErrTag", laid_doffer_api_ErrTag)] }
def CombAtSaid : Prop := combAtRow.holds Tryd.pinned (OpenSpec.ofChange combAtSpec)

/-- ITS FALSE NEIGHBOUR: 'it returns false'. Refute it at one input. -/
def combAtWrong : ChangeSpec := { name := "combAt", fn := fun _ => fun
  | [d1, d2, d3] => { results := [.lit (.bool false)], args := [d1, d2, d3] }
  | _ => none }
def CombAtWrongFalsely : Prop := combAtRow.holds Tryd.pinned (OpenSpec.ofChange combAtWrong)

/-- 'dofferlaw07.TreeNames': WHATEVER THE INPUT: true; the input reads as it did. -/
def treeNamesSpec : ChangeSpec := { name := "treeNames", fn := fun _ => fun
  | [d] => { results := [.lit (.bool true)], args := [d] }
  | _ => none }
def treeNamesRow : OpenClaim := { program := "yteekonojmpihlaadoor", sum := "7802d3747be0b82a321ab3605a67cfd89126a034d6b72a2cea4f55f99aa38163", func := "doffer/dofferlaw07.TreeNames", spec := "treeNames", inPlace := ["internal/bytealg.IndexByteString", "internal/abi.NoEscape", "internal/bytealg.MakeNoZero"], unfollowed := true, recurses := true, named := ["math/bits.deBruijn64tab"], apart := false, laid := [("math/bits.deBruijn64tab", laid_math_bits_deBruijn64tab)] }
def TreeNamesSaid : Prop := treeNamesRow.holds Tryd.pinned (OpenSpec.ofChange treeNamesSpec)

/-- ITS FALSE NEIGHBOUR: 'it returns false'. Refute it at one input. -/
def treeNamesWrong : ChangeSpec := { name := "treeNames", fn := fun _ => fun
  | [d] => { results := [.lit (.bool false)], args := [d] }
  | _ => none }
def TreeNamesWrongFalsely : Prop := treeNamesRow.holds Tryd.pinned (OpenSpec.ofChange treeNamesWrong)

/-- 'dofferlaw07.TreeBounds': WHATEVER THE INPUT: true; the input reads as it did. -/
def treeBoundsSpec : ChangeSpec := { name := "treeBounds", fn := fun _ => fun
  | [d1, d2] => { results := [.lit (.bool true)], args := [d1, d2] }
  | _ => none }
def treeBoundsRow : OpenClaim := { program := "yteekonojmpihlaadoor", sum := "7802d3747be0b82a321ab3605a67cfd89126a034d6b72a2cea4f55f99aa38163", func := "doffer/dofferlaw07.TreeBounds", spec := "treeBounds", inPlace := ["internal/bytealg.IndexByteString", "internal/abi.NoEscape", "internal/bytealg.MakeNoZero"], unfollowed := true, recurses := true, named := ["math/bits.deBruijn64tab"], apart := false, laid := [("math/bits.deBruijn64tab", laid_math_bits_deBruijn64tab)] }
def TreeBoundsSaid : Prop := treeBoundsRow.holds Tryd.pinned (OpenSpec.ofChange treeBoundsSpec)

/-- ITS FALSE NEIGHBOUR: 'it returns false'. Refute it at one input. -/
def treeBoundsWrong : ChangeSpec := { name := "treeBounds", fn := fun _ => fun
  | [d1, d2] => { results := [.lit (.bool false)], args := [d1, d2] }
  | _ => none }
def TreeBoundsWrongFalsely : Prop := treeBoundsRow.holds Tryd.pinned (OpenSpec.ofChange treeBoundsWrong)

/-- 'dofferlaw07.TreeTells': WHATEVER THE INPUT: true; the input reads as it did. -/
def treeTellsSpec : ChangeSpec := { name := "treeTells", fn := fun _ => fun
  | [d] => { results := [.lit (.bool true)], args := [d] }
  | _ => none }
def treeTellsRow : OpenClaim := { program := "yteekonojmpihlaadoor", sum := "7802d3747be0b82a321ab3605a67cfd89126a034d6b72a2cea4f55f99aa38163", func := "doffer/dofferlaw07.TreeTells", spec := "treeTells", inPlace := ["internal/bytealg.IndexByteString", "internal/abi.NoEscape", "internal/bytealg.MakeNoZero"], unfollowed := true, recurses := true, named := ["math/bits.deBruijn64tab"], loops := true, apart := false, laid := [("math/bits.deBruijn64tab", laid_math_bits_deBruijn64tab)] }
def TreeTellsSaid : Prop := treeTellsRow.holds Tryd.pinned (OpenSpec.ofChange treeTellsSpec)

/-- ITS FALSE NEIGHBOUR: 'it returns false'. Refute it at one input. -/
def treeTellsWrong : ChangeSpec := { name := "treeTells", fn := fun _ => fun
  | [d] => { results := [.lit (.bool false)], args := [d] }
  | _ => none }
def TreeTellsWrongFalsely : Prop := treeTellsRow.holds Tryd.pinned (OpenSpec.ofChange treeTellsWrong)

/-- 'dofferlaw07.TreeSame': WHATEVER THE INPUT: true; the input reads as it did. -/
def treeSameSpec : ChangeSpec := { name := "treeSame", fn := fun _ => fun
  | [d1, d2] => { results := [.lit (.bool true)], args := [d1, d2] }
  | _ => none }
def treeSameRow : OpenClaim := { program := "yteekonojmpihlaadoor", sum := "7802d3747be0b82a321ab3605a67cfd89126a034d6b72a2cea4f55f99aa38163", func := "doffer/dofferlaw07.TreeSame", spec := "treeSame", inPlace := ["internal/bytealg.IndexByteString", "internal/abi.NoEscape", "internal/bytealg.MakeNoZero"], unfollowed := true, recurses := true, named := ["math/bits.deBruijn64tab"], loops := true, apart := false, laid := [("math/bits.deBruijn64tab", laid_math_bits_deBruijn64tab)] }
def TreeSameSaid : Prop := treeSameRow.holds Tryd.pinned (OpenSpec.ofChange treeSameSpec)

/-- ITS FALSE NEIGHBOUR: 'it returns false'. Refute it at one input. -/
def treeSameWrong : ChangeSpec := { name := "treeSame", fn := fun _ => fun
  | [d1, d2] => { results := [.lit (.bool false)], args := [d1, d2] }
  | _ => none }
def TreeSameWrongFalsely : Prop := treeSameRow.holds Tryd.pinned (OpenSpec.ofChange treeSameWrong)

/- THE SECOND FORM. 'bulk': how many values and letters a reading holds, each counted each time it is reached (what is shared counts as often as it is met; a slice's spare places count too). A statement '..UptoSaid' is the law's where the arguments, and the package variables that the reading takes, are together of bulk at most 1048576: NARROWER than '..Said'. Prove '..Said' where nothing that the law and all that it calls make is longer than what came in: it says more and counts as full. Else prove '..UptoSaid'. A law counts once. -/
mutual
def uptoBulk {H : Type} : DataW H → Nat
  | .lit (.string bytes) => bytes.length + 1
  | .lit _ => 1
  | .nil => 1
  | .ptr d => uptoBulk d + 1
  | .slice elems spare => uptoBulkAll elems + uptoBulkAll spare + 1
  | .agg parts => uptoBulkAll parts + 1
  | .iface _ d => uptoBulk d + 1
  | .map entries => uptoBulkEntries entries + 1
  | .held _ => 1
def uptoBulkAll {H : Type} : List (DataW H) → Nat
  | [] => 0
  | d :: r => uptoBulk d + uptoBulkAll r
def uptoBulkEntries {H : Type} : List (Lit × DataW H) → Nat
  | [] => 0
  | x :: r => uptoBulkEntry x + uptoBulkEntries r
def uptoBulkEntry {H : Type} : Lit × DataW H → Nat
  | (.string bytes, d) => bytes.length + uptoBulk d + 1
  | (_, d) => uptoBulk d + 1
 end
def uptoSmall : (H : Type) → List (DataW H) → Bool := fun _ ds => decide (uptoBulkAll ds ≤ 1048576)
def OpenSpec.upto (s : _root_.Go.ChangeSpec) : _root_.Go.OpenSpec := { _root_.Go.OpenSpec.ofChange s with cond := some uptoSmall }

/-- 'dofferlaw11.NamesBook', WHERE WHAT IT READS IS OF BULK AT MOST 1048576: true; the input reads as it did. -/
def namesBookUptoRow : OpenClaim := { program := "yteekonojmpihlaadoor", sum := "7802d3747be0b82a321ab3605a67cfd89126a034d6b72a2cea4f55f99aa38163", func := "doffer/dofferlaw11.NamesBook", spec := "namesBook", inPlace := ["internal/reflectlite.TypeOf", "maps.clone"], unfollowed := true, recurses := true, named := ["doffer/api.ErrName", "doffer/api.ErrForm", "doffer/api.ErrDup", "doffer/api.ErrFull", "doffer/api.ErrDepth", "doffer/api.ErrLimit", "doffer/api.ErrNone", "doffer/api.ErrLoop", "doffer/api.ErrRange", "doffer/api.ErrShort", "doffer/api.ErrLong", "doffer/api.ErrSum", "doffer/api.ErrVersion", "doffer/api.ErrIndex", "doffer/api.ErrCredit", "doffer/api.ErrState", "doffer/api.ErrParked", "doffer/api.ErrTag"], loops := true, apart := false, laid := [("doffer/api.ErrRange", laid_doffer_api_ErrRange), ("doffer/api.ErrShort", laid_doffer_api_ErrShort), ("doffer/api.ErrLong", laid_doffer_api_ErrLong), ("doffer/api.ErrForm", laid_doffer_api_ErrForm), ("doffer/api.ErrName", laid_doffer_api_ErrName), ("doffer/api.ErrDup", laid_doffer_api_ErrDup), ("doffer/api.ErrDepth", laid_doffer_api_ErrDepth), ("doffer/api.ErrLoop", laid_doffer_api_ErrLoop), ("doffer/api.ErrLimit", laid_doffer_api_ErrLimit), ("doffer/api.ErrSum", laid_doffer_api_ErrSum), ("doffer/api.ErrVersion", laid_doffer_api_ErrVersion), ("doffer/api.ErrIndex", laid_doffer_api_ErrIndex), ("doffer/api.ErrFull", laid_doffer_api_ErrFull), ("doffer/api.ErrCredit", laid_doffer_api_ErrCredit), ("doffer/api.ErrNone", laid_doffer_api_ErrNone), ("doffer/api.ErrState", laid_doffer_api_ErrState), ("doffer/api.ErrParked", laid_doffer_api_ErrParked), ("doffer/api.ErrTag", laid_doffer_api_ErrTag)], narrowed := true }
def NamesBookUptoSaid : Prop := namesBookUptoRow.holds Tryd.pinned (OpenSpec.upto namesBookSpec)

/-- 'dofferlaw11.NamesSpread', WHERE WHAT IT READS IS OF BULK AT MOST 1048576: true; the input reads as it did. -/
def namesSpreadUptoRow : OpenClaim := { program := "yteekonojmpihlaadoor", sum := "7802d3747be0b82a321ab3605a67cfd89126a034d6b72a2cea4f55f99aa38163", func := "doffer/dofferlaw11.NamesSpread", spec := "namesSpread", inPlace := ["internal/reflectlite.TypeOf"], unfollowed := true, recurses := true, named := ["doffer/api.ErrName", "doffer/api.ErrForm", "doffer/api.ErrDup", "doffer/api.ErrFull", "doffer/api.ErrDepth", "doffer/api.ErrLimit", "doffer/api.ErrNone", "doffer/api.ErrLoop", "doffer/api.ErrRange", "doffer/api.ErrShort", "doffer/api.ErrLong", "doffer/api.ErrSum", "doffer/api.ErrVersion", "doffer/api.ErrIndex", "doffer/api.ErrCredit", "doffer/api.ErrState", "doffer/api.ErrParked", "doffer/api.ErrTag"], loops := true, apart := false, laid := [("doffer/api.ErrRange", laid_doffer_api_ErrRange), ("doffer/api.ErrShort", laid_doffer_api_ErrShort), ("doffer/api.ErrLong", laid_doffer_api_ErrLong), ("doffer/api.ErrForm", laid_doffer_api_ErrForm), ("doffer/api.ErrName", laid_doffer_api_ErrName), ("doffer/api.ErrDup", laid_doffer_api_ErrDup), ("doffer/api.ErrDepth", laid_doffer_api_ErrDepth), ("doffer/api.ErrLoop", laid_doffer_api_ErrLoop), ("doffer/api.ErrLimit", laid_doffer_api_ErrLimit), ("doffer/api.ErrSum", laid_doffer_api_ErrSum), ("doffer/api.ErrVersion", laid_doffer_api_ErrVersion), ("doffer/api.ErrIndex", laid_doffer_api_ErrIndex), ("doffer/api.ErrFull", laid_doffer_api_ErrFull), ("doffer/api.ErrCredit", laid_doffer_api_ErrCredit), ("doffer/api.ErrNone", laid_doffer_api_ErrNone), ("doffer/api.ErrState", laid_doffer_api_ErrState), ("doffer/api.ErrParked", laid_doffer_api_ErrParked), ("doffer/api.ErrTag", laid_doffer_api_ErrTag)], narrowed := true }
def NamesSpreadUptoSaid : Prop := namesSpreadUptoRow.holds Tryd.pinned (OpenSpec.upto namesSpreadSpec)

/-- 'dofferlaw11.NamesAgain', WHERE WHAT IT READS IS OF BULK AT MOST 1048576: true; the input reads as it did. -/
def namesAgainUptoRow : OpenClaim := { program := "yteekonojmpihlaadoor", sum := "7802d3747be0b82a321ab3605a67cfd89126a034d6b72a2cea4f55f99aa38163", func := "doffer/dofferlaw11.NamesAgain", spec := "namesAgain", inPlace := ["internal/reflectlite.TypeOf"], unfollowed := true, recurses := true, named := ["doffer/api.ErrName", "doffer/api.ErrForm", "doffer/api.ErrDup", "doffer/api.ErrFull", "doffer/api.ErrDepth", "doffer/api.ErrLimit", "doffer/api.ErrNone", "doffer/api.ErrLoop", "doffer/api.ErrRange", "doffer/api.ErrShort", "doffer/api.ErrLong", "doffer/api.ErrSum", "doffer/api.ErrVersion", "doffer/api.ErrIndex", "doffer/api.ErrCredit", "doffer/api.ErrState", "doffer/api.ErrParked", "doffer/api.ErrTag"], loops := true, apart := false, laid := [("doffer/api.ErrRange", laid_doffer_api_ErrRange), ("doffer/api.ErrShort", laid_doffer_api_ErrShort), ("doffer/api.ErrLong", laid_doffer_api_ErrLong), ("doffer/api.ErrForm", laid_doffer_api_ErrForm), ("doffer/api.ErrName", laid_doffer_api_ErrName), ("doffer/api.ErrDup", laid_doffer_api_ErrDup), ("doffer/api.ErrDepth", laid_doffer_api_ErrDepth), ("doffer/api.ErrLoop", laid_doffer_api_ErrLoop), ("doffer/api.ErrLimit", laid_doffer_api_ErrLimit), ("doffer/api.ErrSum", laid_doffer_api_ErrSum), ("doffer/api.ErrVersion", laid_doffer_api_ErrVersion), ("doffer/api.ErrIndex", laid_doffer_api_ErrIndex), ("doffer/api.ErrFull", laid_doffer_api_ErrFull), ("doffer/api.ErrCredit", laid_doffer_api_ErrCredit), ("doffer/api.ErrNone", laid_doffer_api_ErrNone), ("doffer/api.ErrState", laid_doffer_api_ErrState), ("doffer/api.ErrParked", laid_doffer_api_ErrParked), ("doffer/api.ErrTag", laid_doffer_api_ErrTag)], narrowed := true }
def NamesAgainUptoSaid : Prop := namesAgainUptoRow.holds Tryd.pinned (OpenSpec.upto namesAgainSpec)

/-- 'dofferlaw23.CombSlots', WHERE WHAT IT READS IS OF BULK AT MOST 1048576: true; the input reads as it did. -/
def combSlotsUptoRow : OpenClaim := { program := "yteekonojmpihlaadoor", sum := "7802d3747be0b82a321ab3605a67cfd89126a034d6b72a2cea4f55f99aa38163", func := "doffer/dofferlaw23.CombSlots", spec := "combSlots", unfollowed := true, recurses := true, named := ["doffer/api.ErrForm"], apart := false, laid := [("doffer/api.ErrForm", laid_doffer_api_ErrForm)], narrowed := true }
def CombSlotsUptoSaid : Prop := combSlotsUptoRow.holds Tryd.pinned (OpenSpec.upto combSlotsSpec)

/-- 'dofferlaw23.CombAgain', WHERE WHAT IT READS IS OF BULK AT MOST 1048576: true; the input reads as it did. -/
def combAgainUptoRow : OpenClaim := { program := "yteekonojmpihlaadoor", sum := "7802d3747be0b82a321ab3605a67cfd89126a034d6b72a2cea4f55f99aa38163", func := "doffer/dofferlaw23.CombAgain", spec := "combAgain", unfollowed := true, recurses := true, named := ["doffer/api.ErrForm"], apart := false, laid := [("doffer/api.ErrForm", laid_doffer_api_ErrForm)], narrowed := true }
def CombAgainUptoSaid : Prop := combAgainUptoRow.holds Tryd.pinned (OpenSpec.upto combAgainSpec)

/-- 'dofferlaw23.CombLay', WHERE WHAT IT READS IS OF BULK AT MOST 1048576: true; the input reads as it did. -/
def combLayUptoRow : OpenClaim := { program := "yteekonojmpihlaadoor", sum := "7802d3747be0b82a321ab3605a67cfd89126a034d6b72a2cea4f55f99aa38163", func := "doffer/dofferlaw23.CombLay", spec := "combLay", inPlace := ["internal/reflectlite.TypeOf"], unfollowed := true, recurses := true, named := ["doffer/api.ErrForm", "doffer/api.ErrRange", "doffer/api.ErrShort", "doffer/api.ErrLong", "doffer/api.ErrName", "doffer/api.ErrDup", "doffer/api.ErrDepth", "doffer/api.ErrLoop", "doffer/api.ErrLimit", "doffer/api.ErrSum", "doffer/api.ErrVersion", "doffer/api.ErrIndex", "doffer/api.ErrFull", "doffer/api.ErrCredit", "doffer/api.ErrNone", "doffer/api.ErrState", "doffer/api.ErrParked", "doffer/api.ErrTag"], apart := false, laid := [("doffer/api.ErrRange", laid_doffer_api_ErrRange), ("doffer/api.ErrShort", laid_doffer_api_ErrShort), ("doffer/api.ErrLong", laid_doffer_api_ErrLong), ("doffer/api.ErrForm", laid_doffer_api_ErrForm), ("doffer/api.ErrName", laid_doffer_api_ErrName), ("doffer/api.ErrDup", laid_doffer_api_ErrDup), ("doffer/api.ErrDepth", laid_doffer_api_ErrDepth), ("doffer/api.ErrLoop", laid_doffer_api_ErrLoop), ("doffer/api.ErrLimit", laid_doffer_api_ErrLimit), ("doffer/api.ErrSum", laid_doffer_api_ErrSum), ("doffer/api.ErrVersion", laid_doffer_api_ErrVersion), ("doffer/api.ErrIndex", laid_doffer_api_ErrIndex), ("doffer/api.ErrFull", laid_doffer_api_ErrFull), ("doffer/api.ErrCredit", laid_doffer_api_ErrCredit), ("doffer/api.ErrNone", laid_doffer_api_ErrNone), ("doffer/api.ErrState", laid_doffer_api_ErrState), ("doffer/api.ErrParked", laid_doffer_api_ErrParked), ("doffer/api.ErrTag", laid_doffer_api_ErrTag)], narrowed := true }
def CombLayUptoSaid : Prop := combLayUptoRow.holds Tryd.pinned (OpenSpec.upto combLaySpec)

/-- 'dofferlaw23.CombAt', WHERE WHAT IT READS IS OF BULK AT MOST 1048576: true; the input reads as it did. -/
def combAtUptoRow : OpenClaim := { program := "yteekonojmpihlaadoor", sum := "7802d3747be0b82a321ab3605a67cfd89126a034d6b72a2cea4f55f99aa38163", func := "doffer/dofferlaw23.CombAt", spec := "combAt", inPlace := ["internal/reflectlite.TypeOf"], unfollowed := true, recurses := true, named := ["doffer/api.ErrForm", "doffer/api.ErrRange", "doffer/api.ErrShort", "doffer/api.ErrLong", "doffer/api.ErrName", "doffer/api.ErrDup", "doffer/api.ErrDepth", "doffer/api.ErrLoop", "doffer/api.ErrLimit", "doffer/api.ErrSum", "doffer/api.ErrVersion", "doffer/api.ErrIndex", "doffer/api.ErrFull", "doffer/api.ErrCredit", "doffer/api.ErrNone", "doffer/api.ErrState", "doffer/api.ErrParked", "doffer/api.ErrTag"], apart := false, laid := [("doffer/api.ErrRange", laid_doffer_api_ErrRange), ("doffer/api.ErrShort", laid_doffer_api_ErrShort), ("doffer/api.ErrLong", laid_doffer_api_ErrLong), ("doffer/api.ErrForm", laid_doffer_api_ErrForm), ("doffer/api.ErrName", laid_doffer_api_ErrName), ("doffer/api.ErrDup", laid_doffer_api_ErrDup), ("doffer/api.ErrDepth", laid_doffer_api_ErrDepth), ("doffer/api.ErrLoop", laid_doffer_api_ErrLoop), ("doffer/api.ErrLimit", laid_doffer_api_ErrLimit), ("doffer/api.ErrSum", laid_doffer_api_ErrSum), ("doffer/api.ErrVersion", laid_doffer_api_ErrVersion), ("doffer/api.ErrIndex", laid_doffer_api_ErrIndex), ("doffer/api.ErrFull", laid_doffer_api_ErrFull), ("doffer/api.ErrCredit", laid_doffer_api_ErrCredit), ("doffer/api.ErrNone", laid_doffer_api_ErrNone), ("doffer/api.ErrState", laid_doffer_api_ErrState), ("doffer/api.ErrParked", laid_doffer_api_ErrParked), ("doffer/api.ErrTag", laid_doffer_api_ErrTag)], narrowed := true }
def CombAtUptoSaid : Prop := combAtUptoRow.holds Tryd.pinned (OpenSpec.upto combAtSpec)

/-- 'dofferlaw07.TreeNames', WHERE WHAT IT READS IS OF BULK AT MOST 1048576: true; the input reads as it did. -/
def treeNamesUptoRow : OpenClaim := { program := "yteekonojmpihlaadoor", sum := "7802d3747be0b82a321ab3605a67cfd89126a034d6b72a2cea4f55f99aa38163", func := "doffer/dofferlaw07.TreeNames", spec := "treeNames", inPlace := ["internal/bytealg.IndexByteString", "internal/abi.NoEscape", "internal/bytealg.MakeNoZero"], unfollowed := true, recurses := true, named := ["math/bits.deBruijn64tab"], apart := false, laid := [("math/bits.deBruijn64tab", laid_math_bits_deBruijn64tab)], narrowed := true }
def TreeNamesUptoSaid : Prop := treeNamesUptoRow.holds Tryd.pinned (OpenSpec.upto treeNamesSpec)

/-- 'dofferlaw07.TreeBounds', WHERE WHAT IT READS IS OF BULK AT MOST 1048576: true; the input reads as it did. -/
def treeBoundsUptoRow : OpenClaim := { program := "yteekonojmpihlaadoor", sum := "7802d3747be0b82a321ab3605a67cfd89126a034d6b72a2cea4f55f99aa38163", func := "doffer/dofferlaw07.TreeBounds", spec := "treeBounds", inPlace := ["internal/bytealg.IndexByteString", "internal/abi.NoEscape", "internal/bytealg.MakeNoZero"], unfollowed := true, recurses := true, named := ["math/bits.deBruijn64tab"], apart := false, laid := [("math/bits.deBruijn64tab", laid_math_bits_deBruijn64tab)], narrowed := true }
def TreeBoundsUptoSaid : Prop := treeBoundsUptoRow.holds Tryd.pinned (OpenSpec.upto treeBoundsSpec)

/-- 'dofferlaw07.TreeTells', WHERE WHAT IT READS IS OF BULK AT MOST 1048576: true; the input reads as it did. -/
def treeTellsUptoRow : OpenClaim := { program := "yteekonojmpihlaadoor", sum := "7802d3747be0b82a321ab3605a67cfd89126a034d6b72a2cea4f55f99aa38163", func := "doffer/dofferlaw07.TreeTells", spec := "treeTells", inPlace := ["internal/bytealg.IndexByteString", "internal/abi.NoEscape", "internal/bytealg.MakeNoZero"], unfollowed := true, recurses := true, named := ["math/bits.deBruijn64tab"], loops := true, apart := false, laid := [("math/bits.deBruijn64tab", laid_math_bits_deBruijn64tab)], narrowed := true }
def TreeTellsUptoSaid : Prop := treeTellsUptoRow.holds Tryd.pinned (OpenSpec.upto treeTellsSpec)

/-- 'dofferlaw07.TreeSame', WHERE WHAT IT READS IS OF BULK AT MOST 1048576: true; the input reads as it did. -/
def treeSameUptoRow : OpenClaim := { program := "yteekonojmpihlaadoor", sum := "7802d3747be0b82a321ab3605a67cfd89126a034d6b72a2cea4f55f99aa38163", func := "doffer/dofferlaw07.TreeSame", spec := "treeSame", inPlace := ["internal/bytealg.IndexByteString", "internal/abi.NoEscape", "internal/bytealg.MakeNoZero"], unfollowed := true, recurses := true, named := ["math/bits.deBruijn64tab"], loops := true, apart := false, laid := [("math/bits.deBruijn64tab", laid_math_bits_deBruijn64tab)], narrowed := true }
def TreeSameUptoSaid : Prop := treeSameUptoRow.holds Tryd.pinned (OpenSpec.upto treeSameSpec)

end Rows
end Go.Proofs.YteekonojmpihlaaDoor
