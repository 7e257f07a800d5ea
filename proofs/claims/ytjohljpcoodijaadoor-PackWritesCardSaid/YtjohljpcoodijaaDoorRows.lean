/-
  NARROWER THAN 'FOR EVERY INPUT', by the rows' own cells (each row's printed sentence says how): CrcSum: laid · RobinFair: laid · RingKeeps: laid · RingTypes: laid · PackOne: laid · RingPlays: laid · RobinLeaves: laid · RobinTurns: laid · CrcFrames: laid · CrcTurned: laid · RobinPlays: laid · PackWrites: laid.
  DERIVED. THE GIVEN ROWS OF THIS SEAT. 12 by the template 'for every input the law returns true; each argument reads behind the call as it read before'; 0 by the template 'total and deterministic' (their statements: YtjohljpcoodijaaDoorTotals.lean).
  GIVEN WITH THE SEED: the statements are not yours to turn. If you find one false, say at which input.
  Laid BY PROGRAM, IN A SANDBOX (cutbox-rows.mjs): the forced cells as the released guide's own fill.sh prints them over the translation 055565da19cb4109… (all of the seat's roots in one cut). By AI agents, Wed Nov 11 2026. No macro, syntax, notation, axiom, sorry.
-/
import Derived.Test.YtjohljpcoodijaaDoorChecked
import GoSem.Claim
import GoSem.ClaimJoined
import GoSem.ClaimMapViews
import Derived.JoinedTies
import Derived.KernelRfl
namespace Go.Proofs.YtjohljpcoodijaaDoor
/- THE CELL 'sum', in the pinned program and in every row, IS THE sha256 OF THE DUMP (.gsa) THAT YtjohljpcoodijaaDoorProg.lean LOADS. Nothing in Lean hashes anything: it is a label: what it is worth is what the hold of that sum in a sandbox is worth. -/
noncomputable def Tryd.pinned : Pinned := { name := "ytjohljpcoodijaadoor", sum := "055565da19cb4109cc1d797901d3542b80a7de327f3c2e0f8eb4d01c7228d821", checked := Tryd.checked }
namespace Rows
def none {H : Type} : Left H := { results := [], args := [] }

/- WHAT THE LISTED PACKAGE-LEVEL VARIABLES READ AS WHEN THE CALL BEGINS. Each datum BY PROGRAM (the guide's laid-datum.mjs) off the statement by which the dump's own 'gosem.cut.vars' lays the variable. In a bare row this is a premise. The card (YtjohljpcoodijaaDoorCards.lean) ties it to the program's text. -/
def laid_doffer_crc_steps {H : Type} : DataW H := .agg [.lit (.int .u32 0), .lit (.int .u32 498536548), .lit (.int .u32 997073096), .lit (.int .u32 651767980), .lit (.int .u32 1994146192), .lit (.int .u32 1802195444), .lit (.int .u32 1303535960), .lit (.int .u32 1342533948), .lit (.int .u32 3988292384), .lit (.int .u32 4027552580), .lit (.int .u32 3604390888), .lit (.int .u32 3412177804), .lit (.int .u32 2607071920), .lit (.int .u32 2262029012), .lit (.int .u32 2685067896), .lit (.int .u32 3183342108)]
def laid_doffer_api_ErrRange {H : Type} : DataW H := .iface "*errors.errorString" (.ptr (.agg [.lit (.string [97, 32, 110, 117, 109, 98, 101, 114, 32, 105, 115, 32, 111, 117, 116, 32, 111, 102, 32, 105, 116, 115, 32, 114, 97, 110, 103, 101])]))
def laid_doffer_api_ErrNone {H : Type} : DataW H := .iface "*errors.errorString" (.ptr (.agg [.lit (.string [116, 104, 101, 114, 101, 32, 105, 115, 32, 110, 111, 110, 101])]))
def laid_doffer_api_ErrState {H : Type} : DataW H := .iface "*errors.errorString" (.ptr (.agg [.lit (.string [105, 116, 32, 99, 97, 110, 32, 110, 111, 116, 32, 98, 101, 32, 100, 111, 110, 101, 32, 110, 111, 119])]))
def laid_doffer_api_ErrShort {H : Type} : DataW H := .iface "*errors.errorString" (.ptr (.agg [.lit (.string [115, 111, 109, 101, 116, 104, 105, 110, 103, 32, 105, 115, 32, 109, 105, 115, 115, 105, 110, 103])]))
def laid_doffer_api_ErrLong {H : Type} : DataW H := .iface "*errors.errorString" (.ptr (.agg [.lit (.string [116, 104, 101, 114, 101, 32, 105, 115, 32, 109, 111, 114, 101, 32, 116, 104, 97, 110, 32, 109, 97, 121, 32, 98, 101])]))
def laid_doffer_api_ErrForm {H : Type} : DataW H := .iface "*errors.errorString" (.ptr (.agg [.lit (.string [105, 116, 32, 105, 115, 32, 110, 111, 116, 32, 111, 102, 32, 105, 116, 115, 32, 102, 111, 114, 109])]))
def laid_doffer_api_ErrName {H : Type} : DataW H := .iface "*errors.errorString" (.ptr (.agg [.lit (.string [116, 104, 101, 114, 101, 32, 105, 115, 32, 110, 111, 32, 115, 117, 99, 104, 32, 110, 97, 109, 101])]))
def laid_doffer_api_ErrDup {H : Type} : DataW H := .iface "*errors.errorString" (.ptr (.agg [.lit (.string [116, 104, 101, 114, 101, 32, 105, 115, 32, 111, 110, 101, 32, 97, 108, 114, 101, 97, 100, 121])]))
def laid_doffer_api_ErrDepth {H : Type} : DataW H := .iface "*errors.errorString" (.ptr (.agg [.lit (.string [105, 116, 32, 105, 115, 32, 110, 101, 115, 116, 101, 100, 32, 116, 111, 111, 32, 100, 101, 101, 112])]))
def laid_doffer_api_ErrLoop {H : Type} : DataW H := .iface "*errors.errorString" (.ptr (.agg [.lit (.string [110, 97, 109, 101, 115, 32, 117, 115, 101, 32, 111, 110, 101, 32, 97, 110, 111, 116, 104, 101, 114, 32, 105, 110, 32, 97, 32, 114, 105, 110, 103])]))
def laid_doffer_api_ErrLimit {H : Type} : DataW H := .iface "*errors.errorString" (.ptr (.agg [.lit (.string [105, 116, 32, 103, 114, 111, 119, 115, 32, 98, 101, 121, 111, 110, 100, 32, 105, 116, 115, 32, 108, 105, 109, 105, 116])]))
def laid_doffer_api_ErrSum {H : Type} : DataW H := .iface "*errors.errorString" (.ptr (.agg [.lit (.string [116, 104, 101, 32, 99, 104, 101, 99, 107, 32, 115, 117, 109, 32, 105, 115, 32, 110, 111, 116, 32, 114, 105, 103, 104, 116])]))
def laid_doffer_api_ErrVersion {H : Type} : DataW H := .iface "*errors.errorString" (.ptr (.agg [.lit (.string [105, 116, 32, 105, 115, 32, 111, 102, 32, 97, 110, 111, 116, 104, 101, 114, 32, 118, 101, 114, 115, 105, 111, 110])]))
def laid_doffer_api_ErrIndex {H : Type} : DataW H := .iface "*errors.errorString" (.ptr (.agg [.lit (.string [97, 32, 112, 108, 97, 99, 101, 32, 105, 115, 32, 111, 117, 116, 32, 111, 102, 32, 98, 111, 117, 110, 100, 115])]))
def laid_doffer_api_ErrFull {H : Type} : DataW H := .iface "*errors.errorString" (.ptr (.agg [.lit (.string [116, 104, 101, 114, 101, 32, 105, 115, 32, 110, 111, 32, 114, 111, 111, 109])]))
def laid_doffer_api_ErrCredit {H : Type} : DataW H := .iface "*errors.errorString" (.ptr (.agg [.lit (.string [116, 104, 101, 32, 99, 114, 101, 100, 105, 116, 32, 105, 115, 32, 117, 115, 101, 100, 32, 117, 112])]))
def laid_doffer_api_ErrParked {H : Type} : DataW H := .iface "*errors.errorString" (.ptr (.agg [.lit (.string [105, 116, 32, 119, 97, 105, 116, 115, 32, 102, 111, 114, 32, 105, 116, 115, 32, 111, 117, 116, 112, 117, 116, 32, 116, 111, 32, 98, 101, 32, 116, 97, 107, 101, 110])]))
def laid_doffer_api_ErrTag {H : Type} : DataW H := .iface "*errors.errorString" (.ptr (.agg [.lit (.string [97, 110, 111, 116, 104, 101, 114, 32, 107, 105, 110, 100, 32, 105, 115, 32, 119, 97, 110, 116, 101, 100])]))

/-- 'dofferlaw03.CrcSum': WHATEVER THE INPUT: true; the input reads as it did. -/
def crcSumSpec : ChangeSpec := { name := "crcSum", fn := fun _ => fun
  | [d1, d2] => { results := [.lit (.bool true)], args := [d1, d2] }
  | _ => none }
def crcSumRow : OpenClaim := { program := "ytjohljpcoodijaadoor", sum := "055565da19cb4109cc1d797901d3542b80a7de327f3c2e0f8eb4d01c7228d821", func := "doffer/dofferlaw03.CrcSum", spec := "crcSum", named := ["doffer/crc.steps"], apart := false, laid := [("doffer/crc.steps", laid_doffer_crc_steps)] }
def CrcSumSaid : Prop := crcSumRow.holds Tryd.pinned (OpenSpec.ofChange crcSumSpec)

/-- ITS FALSE NEIGHBOUR: 'it returns false'. Refute it at one input. -/
def crcSumWrong : ChangeSpec := { name := "crcSum", fn := fun _ => fun
  | [d1, d2] => { results := [.lit (.bool false)], args := [d1, d2] }
  | _ => none }
def CrcSumWrongFalsely : Prop := crcSumRow.holds Tryd.pinned (OpenSpec.ofChange crcSumWrong)

/-- 'dofferlaw33.RobinFair': WHATEVER THE INPUT: true; the input reads as it did. -/
def robinFairSpec : ChangeSpec := { name := "robinFair", fn := fun _ => fun
  | [d1, d2, d3] => { results := [.lit (.bool true)], args := [d1, d2, d3] }
  | _ => none }
def robinFairRow : OpenClaim := { program := "ytjohljpcoodijaadoor", sum := "055565da19cb4109cc1d797901d3542b80a7de327f3c2e0f8eb4d01c7228d821", func := "doffer/dofferlaw33.RobinFair", spec := "robinFair", unfollowed := true, recurses := true, named := ["doffer/api.ErrRange", "doffer/api.ErrState", "doffer/api.ErrNone"], apart := false, laid := [("doffer/api.ErrRange", laid_doffer_api_ErrRange), ("doffer/api.ErrNone", laid_doffer_api_ErrNone), ("doffer/api.ErrState", laid_doffer_api_ErrState)] }
def RobinFairSaid : Prop := robinFairRow.holds Tryd.pinned (OpenSpec.ofChange robinFairSpec)

/-- ITS FALSE NEIGHBOUR: 'it returns false'. Refute it at one input. -/
def robinFairWrong : ChangeSpec := { name := "robinFair", fn := fun _ => fun
  | [d1, d2, d3] => { results := [.lit (.bool false)], args := [d1, d2, d3] }
  | _ => none }
def RobinFairWrongFalsely : Prop := robinFairRow.holds Tryd.pinned (OpenSpec.ofChange robinFairWrong)

/-- 'dofferlaw29.RingKeeps': WHATEVER THE INPUT: true; the input reads as it did. -/
def ringKeepsSpec : ChangeSpec := { name := "ringKeeps", fn := fun _ => fun
  | [d1, d2] => { results := [.lit (.bool true)], args := [d1, d2] }
  | _ => none }
def ringKeepsRow : OpenClaim := { program := "ytjohljpcoodijaadoor", sum := "055565da19cb4109cc1d797901d3542b80a7de327f3c2e0f8eb4d01c7228d821", func := "doffer/dofferlaw29.RingKeeps", spec := "ringKeeps", inPlace := ["internal/reflectlite.TypeOf"], unfollowed := true, recurses := true, named := ["doffer/api.ErrRange", "doffer/api.ErrFull", "doffer/api.ErrShort", "doffer/api.ErrLong", "doffer/api.ErrForm", "doffer/api.ErrName", "doffer/api.ErrDup", "doffer/api.ErrDepth", "doffer/api.ErrLoop", "doffer/api.ErrLimit", "doffer/api.ErrSum", "doffer/api.ErrVersion", "doffer/api.ErrIndex", "doffer/api.ErrCredit", "doffer/api.ErrNone", "doffer/api.ErrState", "doffer/api.ErrParked", "doffer/api.ErrTag"], apart := false, laid := [("doffer/api.ErrRange", laid_doffer_api_ErrRange), ("doffer/api.ErrShort", laid_doffer_api_ErrShort), ("doffer/api.ErrLong", laid_doffer_api_ErrLong), ("doffer/api.ErrForm", laid_doffer_api_ErrForm), ("doffer/api.ErrName", laid_doffer_api_ErrName), ("doffer/api.ErrDup", laid_doffer_api_ErrDup), ("doffer/api.ErrDepth", laid_doffer_api_ErrDepth), ("doffer/api.ErrLoop", laid_doffer_api_ErrLoop), ("doffer/api.ErrLimit", laid_doffer_api_ErrLimit), ("doffer/api.ErrSum", laid_doffer_api_ErrSum), ("doffer/api.ErrVersion", laid_doffer_api_ErrVersion), ("doffer/api.ErrIndex", laid_doffer_api_ErrIndex), ("doffer/api.ErrFull", laid_doffer_api_ErrFull), ("doffer/api.ErrCredit", laid_doffer_api_ErrCredit), ("doffer/api.ErrNone", laid_doffer_api_ErrNone), ("doffer/api.ErrState", laid_doffer_api_ErrState), ("doffer/api.ErrParked", laid_doffer_api_ErrParked), ("doffer/api.ErrTag", laid_doffer_api_ErrTag)] }
def RingKeepsSaid : Prop := ringKeepsRow.holds Tryd.pinned (OpenSpec.ofChange ringKeepsSpec)

/-- ITS FALSE NEIGHBOUR: 'it returns false'. Refute it at one input. -/
def ringKeepsWrong : ChangeSpec := { name := "ringKeeps", fn := fun _ => fun
  | [d1, d2] => { results := [.lit (.bool false)], args := [d1, d2] }
  | _ => none }
def RingKeepsWrongFalsely : Prop := ringKeepsRow.holds Tryd.pinned (OpenSpec.ofChange ringKeepsWrong)

/-- 'dofferlaw29.RingTypes': WHATEVER THE INPUT: true; the input reads as it did. -/
def ringTypesSpec : ChangeSpec := { name := "ringTypes", fn := fun _ => fun
  | [d1, d2] => { results := [.lit (.bool true)], args := [d1, d2] }
  | _ => none }
def ringTypesRow : OpenClaim := { program := "ytjohljpcoodijaadoor", sum := "055565da19cb4109cc1d797901d3542b80a7de327f3c2e0f8eb4d01c7228d821", func := "doffer/dofferlaw29.RingTypes", spec := "ringTypes", inPlace := ["internal/reflectlite.TypeOf"], unfollowed := true, recurses := true, named := ["doffer/api.ErrRange", "doffer/api.ErrFull", "doffer/api.ErrShort", "doffer/api.ErrLong", "doffer/api.ErrForm", "doffer/api.ErrName", "doffer/api.ErrDup", "doffer/api.ErrDepth", "doffer/api.ErrLoop", "doffer/api.ErrLimit", "doffer/api.ErrSum", "doffer/api.ErrVersion", "doffer/api.ErrIndex", "doffer/api.ErrCredit", "doffer/api.ErrNone", "doffer/api.ErrState", "doffer/api.ErrParked", "doffer/api.ErrTag"], apart := false, laid := [("doffer/api.ErrRange", laid_doffer_api_ErrRange), ("doffer/api.ErrShort", laid_doffer_api_ErrShort), ("doffer/api.ErrLong", laid_doffer_api_ErrLong), ("doffer/api.ErrForm", laid_doffer_api_ErrForm), ("doffer/api.ErrName", laid_doffer_api_ErrName), ("doffer/api.ErrDup", laid_doffer_api_ErrDup), ("doffer/api.ErrDepth", laid_doffer_api_ErrDepth), ("doffer/api.ErrLoop", laid_doffer_api_ErrLoop), ("doffer/api.ErrLimit", laid_doffer_api_ErrLimit), ("doffer/api.ErrSum", laid_doffer_api_ErrSum), ("doffer/api.ErrVersion", laid_doffer_api_ErrVersion), ("doffer/api.ErrIndex", laid_doffer_api_ErrIndex), ("doffer/api.ErrFull", laid_doffer_api_ErrFull), ("doffer/api.ErrCredit", laid_doffer_api_ErrCredit), ("doffer/api.ErrNone", laid_doffer_api_ErrNone), ("doffer/api.ErrState", laid_doffer_api_ErrState), ("doffer/api.ErrParked", laid_doffer_api_ErrParked), ("doffer/api.ErrTag", laid_doffer_api_ErrTag)] }
def RingTypesSaid : Prop := ringTypesRow.holds Tryd.pinned (OpenSpec.ofChange ringTypesSpec)

/-- ITS FALSE NEIGHBOUR: 'it returns false'. Refute it at one input. -/
def ringTypesWrong : ChangeSpec := { name := "ringTypes", fn := fun _ => fun
  | [d1, d2] => { results := [.lit (.bool false)], args := [d1, d2] }
  | _ => none }
def RingTypesWrongFalsely : Prop := ringTypesRow.holds Tryd.pinned (OpenSpec.ofChange ringTypesWrong)

/-- 'dofferlaw04.PackOne': WHATEVER THE INPUT: true; the input reads as it did. -/
def packOneSpec : ChangeSpec := { name := "packOne", fn := fun _ => fun
  | [d] => { results := [.lit (.bool true)], args := [d] }
  | _ => none }
def packOneRow : OpenClaim := { program := "ytjohljpcoodijaadoor", sum := "055565da19cb4109cc1d797901d3542b80a7de327f3c2e0f8eb4d01c7228d821", func := "doffer/dofferlaw04.PackOne", spec := "packOne", named := ["doffer/api.ErrRange", "doffer/api.ErrForm", "doffer/api.ErrShort"], apart := false, laid := [("doffer/api.ErrRange", laid_doffer_api_ErrRange), ("doffer/api.ErrShort", laid_doffer_api_ErrShort), ("doffer/api.ErrForm", laid_doffer_api_ErrForm)] }
def PackOneSaid : Prop := packOneRow.holds Tryd.pinned (OpenSpec.ofChange packOneSpec)

/-- ITS FALSE NEIGHBOUR: 'it returns false'. Refute it at one input. -/
def packOneWrong : ChangeSpec := { name := "packOne", fn := fun _ => fun
  | [d] => { results := [.lit (.bool false)], args := [d] }
  | _ => none }
def PackOneWrongFalsely : Prop := packOneRow.holds Tryd.pinned (OpenSpec.ofChange packOneWrong)

/-- 'dofferlaw29.RingPlays': WHATEVER THE INPUT: true; the input reads as it did. -/
def ringPlaysSpec : ChangeSpec := { name := "ringPlays", fn := fun _ => fun
  | [d1, d2] => { results := [.lit (.bool true)], args := [d1, d2] }
  | _ => none }
def ringPlaysRow : OpenClaim := { program := "ytjohljpcoodijaadoor", sum := "055565da19cb4109cc1d797901d3542b80a7de327f3c2e0f8eb4d01c7228d821", func := "doffer/dofferlaw29.RingPlays", spec := "ringPlays", inPlace := ["internal/reflectlite.TypeOf"], unfollowed := true, recurses := true, named := ["doffer/api.ErrRange", "doffer/api.ErrFull", "doffer/api.ErrShort", "doffer/api.ErrLong", "doffer/api.ErrForm", "doffer/api.ErrName", "doffer/api.ErrDup", "doffer/api.ErrDepth", "doffer/api.ErrLoop", "doffer/api.ErrLimit", "doffer/api.ErrSum", "doffer/api.ErrVersion", "doffer/api.ErrIndex", "doffer/api.ErrCredit", "doffer/api.ErrNone", "doffer/api.ErrState", "doffer/api.ErrParked", "doffer/api.ErrTag"], apart := false, laid := [("doffer/api.ErrRange", laid_doffer_api_ErrRange), ("doffer/api.ErrShort", laid_doffer_api_ErrShort), ("doffer/api.ErrLong", laid_doffer_api_ErrLong), ("doffer/api.ErrForm", laid_doffer_api_ErrForm), ("doffer/api.ErrName", laid_doffer_api_ErrName), ("doffer/api.ErrDup", laid_doffer_api_ErrDup), ("doffer/api.ErrDepth", laid_doffer_api_ErrDepth), ("doffer/api.ErrLoop", laid_doffer_api_ErrLoop), ("doffer/api.ErrLimit", laid_doffer_api_ErrLimit), ("doffer/api.ErrSum", laid_doffer_api_ErrSum), ("doffer/api.ErrVersion", laid_doffer_api_ErrVersion), ("doffer/api.ErrIndex", laid_doffer_api_ErrIndex), ("doffer/api.ErrFull", laid_doffer_api_ErrFull), ("doffer/api.ErrCredit", laid_doffer_api_ErrCredit), ("doffer/api.ErrNone", laid_doffer_api_ErrNone), ("doffer/api.ErrState", laid_doffer_api_ErrState), ("doffer/api.ErrParked", laid_doffer_api_ErrParked), ("doffer/api.ErrTag", laid_doffer_api_ErrTag)] }
def RingPlaysSaid : Prop := ringPlaysRow.holds Tryd.pinned (OpenSpec.ofChange ringPlaysSpec)

/-- ITS FALSE NEIGHBOUR: 'it returns false'. Refute it at one input. -/
def ringPlaysWrong : ChangeSpec := { name := "ringPlays", fn := fun _ => fun
  | [d1, d2] => { results := [.lit (.bool false)], args := [d1, d2] }
  | _ => none }
def RingPlaysWrongFalsely : Prop := ringPlaysRow.holds Tryd.pinned (OpenSpec.ofChange ringPlaysWrong)

/-- 'dofferlaw33.RobinLeaves': WHATEVER THE INPUT: true; the input reads as it did. -/
def robinLeavesSpec : ChangeSpec := { name := "robinLeaves", fn := fun _ => fun
  | [d1, d2, d3] => { results := [.lit (.bool true)], args := [d1, d2, d3] }
  | _ => none }
def robinLeavesRow : OpenClaim := { program := "ytjohljpcoodijaadoor", sum := "055565da19cb4109cc1d797901d3542b80a7de327f3c2e0f8eb4d01c7228d821", func := "doffer/dofferlaw33.RobinLeaves", spec := "robinLeaves", unfollowed := true, recurses := true, named := ["doffer/api.ErrRange", "doffer/api.ErrState", "doffer/api.ErrNone"], apart := false, laid := [("doffer/api.ErrRange", laid_doffer_api_ErrRange), ("doffer/api.ErrNone", laid_doffer_api_ErrNone), ("doffer/api.ErrState", laid_doffer_api_ErrState)] }
def RobinLeavesSaid : Prop := robinLeavesRow.holds Tryd.pinned (OpenSpec.ofChange robinLeavesSpec)

/-- ITS FALSE NEIGHBOUR: 'it returns false'. Refute it at one input. -/
def robinLeavesWrong : ChangeSpec := { name := "robinLeaves", fn := fun _ => fun
  | [d1, d2, d3] => { results := [.lit (.bool false)], args := [d1, d2, d3] }
  | _ => none }
def RobinLeavesWrongFalsely : Prop := robinLeavesRow.holds Tryd.pinned (OpenSpec.ofChange robinLeavesWrong)

/-- 'dofferlaw33.RobinTurns': WHATEVER THE INPUT: true; the input reads as it did. -/
def robinTurnsSpec : ChangeSpec := { name := "robinTurns", fn := fun _ => fun
  | [d1, d2] => { results := [.lit (.bool true)], args := [d1, d2] }
  | _ => none }
def robinTurnsRow : OpenClaim := { program := "ytjohljpcoodijaadoor", sum := "055565da19cb4109cc1d797901d3542b80a7de327f3c2e0f8eb4d01c7228d821", func := "doffer/dofferlaw33.RobinTurns", spec := "robinTurns", inPlace := ["internal/reflectlite.TypeOf"], unfollowed := true, recurses := true, named := ["doffer/api.ErrRange", "doffer/api.ErrState", "doffer/api.ErrNone", "doffer/api.ErrShort", "doffer/api.ErrLong", "doffer/api.ErrForm", "doffer/api.ErrName", "doffer/api.ErrDup", "doffer/api.ErrDepth", "doffer/api.ErrLoop", "doffer/api.ErrLimit", "doffer/api.ErrSum", "doffer/api.ErrVersion", "doffer/api.ErrIndex", "doffer/api.ErrFull", "doffer/api.ErrCredit", "doffer/api.ErrParked", "doffer/api.ErrTag"], apart := false, laid := [("doffer/api.ErrRange", laid_doffer_api_ErrRange), ("doffer/api.ErrShort", laid_doffer_api_ErrShort), ("doffer/api.ErrLong", laid_doffer_api_ErrLong), ("doffer/api.ErrForm", laid_doffer_api_ErrForm), ("doffer/api.ErrName", laid_doffer_api_ErrName), ("doffer/api.ErrDup", laid_doffer_api_ErrDup), ("doffer/api.ErrDepth", laid_doffer_api_ErrDepth), ("doffer/api.ErrLoop", laid_doffer_api_ErrLoop), ("doffer/api.ErrLimit", laid_doffer_api_ErrLimit), ("doffer/api.ErrSum", laid_doffer_api_ErrSum), ("doffer/api.ErrVersion", laid_doffer_api_ErrVersion), ("doffer/api.ErrIndex", laid_doffer_api_ErrIndex), ("doffer/api.ErrFull", laid_doffer_api_ErrFull), ("doffer/api.ErrCredit", laid_doffer_api_ErrCredit), ("doffer/api.ErrNone", laid_doffer_api_ErrNone), ("doffer/api.ErrState", laid_doffer_api_ErrState), ("doffer/api.ErrParked", laid_doffer_api_ErrParked), ("doffer/api.ErrTag", laid_doffer_api_ErrTag)] }
def RobinTurnsSaid : Prop := robinTurnsRow.holds Tryd.pinned (OpenSpec.ofChange robinTurnsSpec)

/-- ITS FALSE NEIGHBOUR: 'it returns false'. Refute it at one input. -/
def robinTurnsWrong : ChangeSpec := { name := "robinTurns", fn := fun _ => fun
  | [d1, d2] => { results := [.lit (.bool false)], args := [d1, d2] }
  | _ => none }
def RobinTurnsWrongFalsely : Prop := robinTurnsRow.holds Tryd.pinned (OpenSpec.ofChange robinTurnsWrong)

/-- 'dofferlaw03.CrcFrames': WHATEVER THE INPUT: true; the input reads as it did. -/
def crcFramesSpec : ChangeSpec := { name := "crcFrames", fn := fun _ => fun
  | [d] => { results := [.lit (.bool true)], args := [d] }
  | _ => none }
def crcFramesRow : OpenClaim := { program := "ytjohljpcoodijaadoor", sum := "055565da19cb4109cc1d797901d3542b80a7de327f3c2e0f8eb4d01c7228d821", func := "doffer/dofferlaw03.CrcFrames", spec := "crcFrames", inPlace := ["internal/reflectlite.TypeOf"], unfollowed := true, recurses := true, named := ["doffer/crc.steps", "doffer/api.ErrShort", "doffer/api.ErrSum", "doffer/api.ErrRange", "doffer/api.ErrLong", "doffer/api.ErrForm", "doffer/api.ErrName", "doffer/api.ErrDup", "doffer/api.ErrDepth", "doffer/api.ErrLoop", "doffer/api.ErrLimit", "doffer/api.ErrVersion", "doffer/api.ErrIndex", "doffer/api.ErrFull", "doffer/api.ErrCredit", "doffer/api.ErrNone", "doffer/api.ErrState", "doffer/api.ErrParked", "doffer/api.ErrTag"], apart := false, laid := [("doffer/api.ErrRange", laid_doffer_api_ErrRange), ("doffer/api.ErrShort", laid_doffer_api_ErrShort), ("doffer/api.ErrLong", laid_doffer_api_ErrLong), ("doffer/api.ErrForm", laid_doffer_api_ErrForm), ("doffer/api.ErrName", laid_doffer_api_ErrName), ("doffer/api.ErrDup", laid_doffer_api_ErrDup), ("doffer/api.ErrDepth", laid_doffer_api_ErrDepth), ("doffer/api.ErrLoop", laid_doffer_api_ErrLoop), ("doffer/api.ErrLimit", laid_doffer_api_ErrLimit), ("doffer/api.ErrSum", laid_doffer_api_ErrSum), ("doffer/api.ErrVersion", laid_doffer_api_ErrVersion), ("doffer/api.ErrIndex", laid_doffer_api_ErrIndex), ("doffer/api.ErrFull", laid_doffer_api_ErrFull), ("doffer/api.ErrCredit", laid_doffer_api_ErrCredit), ("doffer/api.ErrNone", laid_doffer_api_ErrNone), ("doffer/api.ErrState", laid_doffer_api_ErrState), ("doffer/api.ErrParked", laid_doffer_api_ErrParked), ("doffer/api.ErrTag", laid_doffer_api_ErrTag), ("doffer/crc.steps", laid_doffer_crc_steps)] }
def CrcFramesSaid : Prop := crcFramesRow.holds Tryd.pinned (OpenSpec.ofChange crcFramesSpec)

/-- ITS FALSE NEIGHBOUR: 'it returns false'. Refute it at one input. -/
def crcFramesWrong : ChangeSpec := { name := "crcFrames", fn := fun _ => fun
  | [d] => { results := [.lit (.bool false)], args := [d] }
  | _ => none }
def CrcFramesWrongFalsely : Prop := crcFramesRow.holds Tryd.pinned (OpenSpec.ofChange crcFramesWrong)

/-- 'dofferlaw03.CrcTurned': WHATEVER THE INPUT: true; the input reads as it did. -/
def crcTurnedSpec : ChangeSpec := { name := "crcTurned", fn := fun _ => fun
  | [d1, d2, d3] => { results := [.lit (.bool true)], args := [d1, d2, d3] }
  | _ => none }
def crcTurnedRow : OpenClaim := { program := "ytjohljpcoodijaadoor", sum := "055565da19cb4109cc1d797901d3542b80a7de327f3c2e0f8eb4d01c7228d821", func := "doffer/dofferlaw03.CrcTurned", spec := "crcTurned", inPlace := ["internal/reflectlite.TypeOf"], unfollowed := true, recurses := true, named := ["doffer/crc.steps", "doffer/api.ErrShort", "doffer/api.ErrSum", "doffer/api.ErrRange", "doffer/api.ErrLong", "doffer/api.ErrForm", "doffer/api.ErrName", "doffer/api.ErrDup", "doffer/api.ErrDepth", "doffer/api.ErrLoop", "doffer/api.ErrLimit", "doffer/api.ErrVersion", "doffer/api.ErrIndex", "doffer/api.ErrFull", "doffer/api.ErrCredit", "doffer/api.ErrNone", "doffer/api.ErrState", "doffer/api.ErrParked", "doffer/api.ErrTag"], apart := false, laid := [("doffer/api.ErrRange", laid_doffer_api_ErrRange), ("doffer/api.ErrShort", laid_doffer_api_ErrShort), ("doffer/api.ErrLong", laid_doffer_api_ErrLong), ("doffer/api.ErrForm", laid_doffer_api_ErrForm), ("doffer/api.ErrName", laid_doffer_api_ErrName), ("doffer/api.ErrDup", laid_doffer_api_ErrDup), ("doffer/api.ErrDepth", laid_doffer_api_ErrDepth), ("doffer/api.ErrLoop", laid_doffer_api_ErrLoop), ("doffer/api.ErrLimit", laid_doffer_api_ErrLimit), ("doffer/api.ErrSum", laid_doffer_api_ErrSum), ("doffer/api.ErrVersion", laid_doffer_api_ErrVersion), ("doffer/api.ErrIndex", laid_doffer_api_ErrIndex), ("doffer/api.ErrFull", laid_doffer_api_ErrFull), ("doffer/api.ErrCredit", laid_doffer_api_ErrCredit), ("doffer/api.ErrNone", laid_doffer_api_ErrNone), ("doffer/api.ErrState", laid_doffer_api_ErrState), ("doffer/api.ErrParked", laid_doffer_api_ErrParked), ("doffer/api.ErrTag", laid_doffer_api_ErrTag), ("doffer/crc.steps", laid_doffer_crc_steps)] }
def CrcTurnedSaid : Prop := crcTurnedRow.holds Tryd.pinned (OpenSpec.ofChange crcTurnedSpec)

/-- ITS FALSE NEIGHBOUR: 'it returns false'. Refute it at one input. -/
def crcTurnedWrong : ChangeSpec := { name := "crcTurned", fn := fun _ => fun
  | [d1, d2, d3] => { results := [.lit (.bool false)], args := [d1, d2, d3] }
  | _ => none }
def CrcTurnedWrongFalsely : Prop := crcTurnedRow.holds Tryd.pinned (OpenSpec.ofChange crcTurnedWrong)

/-- 'dofferlaw33.RobinPlays': WHATEVER THE INPUT: true; the input reads as it did. -/
def robinPlaysSpec : ChangeSpec := { name := "robinPlays", fn := fun _ => fun
  | [d1, d2] => { results := [.lit (.bool true)], args := [d1, d2] }
  | _ => none }
def robinPlaysRow : OpenClaim := { program := "ytjohljpcoodijaadoor", sum := "055565da19cb4109cc1d797901d3542b80a7de327f3c2e0f8eb4d01c7228d821", func := "doffer/dofferlaw33.RobinPlays", spec := "robinPlays", inPlace := ["internal/reflectlite.TypeOf"], unfollowed := true, recurses := true, named := ["doffer/api.ErrRange", "doffer/api.ErrState", "doffer/api.ErrNone", "doffer/api.ErrShort", "doffer/api.ErrLong", "doffer/api.ErrForm", "doffer/api.ErrName", "doffer/api.ErrDup", "doffer/api.ErrDepth", "doffer/api.ErrLoop", "doffer/api.ErrLimit", "doffer/api.ErrSum", "doffer/api.ErrVersion", "doffer/api.ErrIndex", "doffer/api.ErrFull", "doffer/api.ErrCredit", "doffer/api.ErrParked", "doffer/api.ErrTag"], apart := false, laid := [("doffer/api.ErrRange", laid_doffer_api_ErrRange), ("doffer/api.ErrShort", laid_doffer_api_ErrShort), ("doffer/api.ErrLong", laid_doffer_api_ErrLong), ("doffer/api.ErrForm", laid_doffer_api_ErrForm), ("doffer/api.ErrName", laid_doffer_api_ErrName), ("doffer/api.ErrDup", laid_doffer_api_ErrDup), ("doffer/api.ErrDepth", laid_doffer_api_ErrDepth), ("doffer/api.ErrLoop", laid_doffer_api_ErrLoop), ("doffer/api.ErrLimit", laid_doffer_api_ErrLimit), ("doffer/api.ErrSum", laid_doffer_api_ErrSum), ("doffer/api.ErrVersion", laid_doffer_api_ErrVersion), ("doffer/api.ErrIndex", laid_doffer_api_ErrIndex), ("doffer/api.ErrFull", laid_doffer_api_ErrFull), ("doffer/api.ErrCredit", laid_doffer_api_ErrCredit), ("doffer/api.ErrNone", laid_doffer_api_ErrNone), ("doffer/api.ErrState", laid_doffer_api_ErrState), ("doffer/api.ErrParked", laid_doffer_api_ErrParked), ("doffer/api.ErrTag", laid_doffer_api_ErrTag)] }
def RobinPlaysSaid : Prop := robinPlaysRow.holds Tryd.pinned (OpenSpec.ofChange robinPlaysSpec)

/-- ITS FALSE NEIGHBOUR: 'it returns false'. Refute it at one input. -/
def robinPlaysWrong : ChangeSpec := { name := "robinPlays", fn := fun _ => fun
  | [d1, d2] => { results := [.lit (.bool false)], args := [d1, d2] }
  | _ => none }
def RobinPlaysWrongFalsely : Prop := robinPlaysRow.holds Tryd.pinned (OpenSpec.ofChange robinPlaysWrong)

/-- 'dofferlaw04.PackWrites': WHATEVER THE INPUT: true; the input reads as it did. -/
def packWritesSpec : ChangeSpec := { name := "packWrites", fn := fun _ => fun
  | [d] => { results := [.lit (.bool true)], args := [d] }
  | _ => none }
def packWritesRow : OpenClaim := { program := "ytjohljpcoodijaadoor", sum := "055565da19cb4109cc1d797901d3542b80a7de327f3c2e0f8eb4d01c7228d821", func := "doffer/dofferlaw04.PackWrites", spec := "packWrites", inPlace := ["internal/reflectlite.TypeOf"], unfollowed := true, recurses := true, named := ["doffer/api.ErrRange", "doffer/api.ErrShort", "doffer/api.ErrLong", "doffer/api.ErrForm", "doffer/api.ErrName", "doffer/api.ErrDup", "doffer/api.ErrDepth", "doffer/api.ErrLoop", "doffer/api.ErrLimit", "doffer/api.ErrSum", "doffer/api.ErrVersion", "doffer/api.ErrIndex", "doffer/api.ErrFull", "doffer/api.ErrCredit", "doffer/api.ErrNone", "doffer/api.ErrState", "doffer/api.ErrParked", "doffer/api.ErrTag"], apart := false, laid := [("doffer/api.ErrRange", laid_doffer_api_ErrRange), ("doffer/api.ErrShort", laid_doffer_api_ErrShort), ("doffer/api.ErrLong", laid_doffer_api_ErrLong), ("doffer/api.ErrForm", laid_doffer_api_ErrForm), ("doffer/api.ErrName", laid_doffer_api_ErrName), ("doffer/api.ErrDup", laid_doffer_api_ErrDup), ("doffer/api.ErrDepth", laid_doffer_api_ErrDepth), ("doffer/api.ErrLoop", laid_doffer_api_ErrLoop), ("doffer/api.ErrLimit", laid_doffer_api_ErrLimit), ("doffer/api.ErrSum", laid_doffer_api_ErrSum), ("doffer/api.ErrVersion", laid_doffer_api_ErrVersion), ("doffer/api.ErrIndex", laid_doffer_api_ErrIndex), ("doffer/api.ErrFull", laid_doffer_api_ErrFull), ("doffer/api.ErrCredit", laid_doffer_api_ErrCredit), ("doffer/api.ErrNone", laid_doffer_api_ErrNone), ("doffer/api.ErrState", laid_doffer_api_ErrState), ("doffer/api.ErrParked", laid_doffer_api_ErrParked), ("doffer/api.ErrTag", laid_doffer_api_ErrTag)] }
def PackWritesSaid : Prop := packWritesRow.holds Tryd.pinned (OpenSpec.ofChange packWritesSpec)

/-- ITS FALSE NEIGHBOUR: 'it returns false'. Refute it at one input. -/
def packWritesWrong : ChangeSpec := { name := "packWrites", fn := fun _ => fun
  | [d] => { results := [.lit (.bool false)], args := [d] }
  | _ => none }
def PackWritesWrongFalsely : Prop := packWritesRow.holds Tryd.pinned (OpenSpec.ofChange packWritesWrong)

/- THE SECOND FORM. 'bulk': how many values and letters a reading holds, each counted each time it is reached (what is shared counts as often as it is met; a slice's spare places count too). A statement '..UptoSaid' is the law's where the arguments, and the package variables that the reading takes, are together of bulk at most 1048576: NARROWER than '..Said'. Prove '..Said' where nothing that the law and all that it calls make is longer than what came in: it says more and counts as full. Else prove '..UptoSaid'. A law counts once. -/
mutual
def uptoBulk {H : Type} : DataW H → Nat
  | .lit (.string bytes) => bytes.length + 1
  | .lit _ => 1
  | .nil => 1
  | .ptr d => uptoBulk d + 1
  | .slice elems spare => uptoBulkAll elems + uptoBulkAll spare + 1
  | .agg parts => uptoBulkAll parts + 1
  | .iface _ d => uptoBulk d + 1
  | .map entries => uptoBulkEntries entries + 1
  | .held _ => 1
def uptoBulkAll {H : Type} : List (DataW H) → Nat
  | [] => 0
  | d :: r => uptoBulk d + uptoBulkAll r
def uptoBulkEntries {H : Type} : List (Lit × DataW H) → Nat
  | [] => 0
  | x :: r => uptoBulkEntry x + uptoBulkEntries r
def uptoBulkEntry {H : Type} : Lit × DataW H → Nat
  | (.string bytes, d) => bytes.length + uptoBulk d + 1
  | (_, d) => uptoBulk d + 1
 end
def uptoSmall : (H : Type) → List (DataW H) → Bool := fun _ ds => decide (uptoBulkAll ds ≤ 1048576)
def OpenSpec.upto (s : _root_.Go.ChangeSpec) : _root_.Go.OpenSpec := { _root_.Go.OpenSpec.ofChange s with cond := some uptoSmall }

/-- 'dofferlaw03.CrcSum', WHERE WHAT IT READS IS OF BULK AT MOST 1048576: true; the input reads as it did. -/
def crcSumUptoRow : OpenClaim := { program := "ytjohljpcoodijaadoor", sum := "055565da19cb4109cc1d797901d3542b80a7de327f3c2e0f8eb4d01c7228d821", func := "doffer/dofferlaw03.CrcSum", spec := "crcSum", named := ["doffer/crc.steps"], apart := false, laid := [("doffer/crc.steps", laid_doffer_crc_steps)], narrowed := true }
def CrcSumUptoSaid : Prop := crcSumUptoRow.holds Tryd.pinned (OpenSpec.upto crcSumSpec)

/-- 'dofferlaw33.RobinFair', WHERE WHAT IT READS IS OF BULK AT MOST 1048576: true; the input reads as it did. -/
def robinFairUptoRow : OpenClaim := { program := "ytjohljpcoodijaadoor", sum := "055565da19cb4109cc1d797901d3542b80a7de327f3c2e0f8eb4d01c7228d821", func := "doffer/dofferlaw33.RobinFair", spec := "robinFair", unfollowed := true, recurses := true, named := ["doffer/api.ErrRange", "doffer/api.ErrState", "doffer/api.ErrNone"], apart := false, laid := [("doffer/api.ErrRange", laid_doffer_api_ErrRange), ("doffer/api.ErrNone", laid_doffer_api_ErrNone), ("doffer/api.ErrState", laid_doffer_api_ErrState)], narrowed := true }
def RobinFairUptoSaid : Prop := robinFairUptoRow.holds Tryd.pinned (OpenSpec.upto robinFairSpec)

/-- 'dofferlaw29.RingKeeps', WHERE WHAT IT READS IS OF BULK AT MOST 1048576: true; the input reads as it did. -/
def ringKeepsUptoRow : OpenClaim := { program := "ytjohljpcoodijaadoor", sum := "055565da19cb4109cc1d797901d3542b80a7de327f3c2e0f8eb4d01c7228d821", func := "doffer/dofferlaw29.RingKeeps", spec := "ringKeeps", inPlace := ["internal/reflectlite.TypeOf"], unfollowed := true, recurses := true, named := ["doffer/api.ErrRange", "doffer/api.ErrFull", "doffer/api.ErrShort", "doffer/api.ErrLong", "doffer/api.ErrForm", "doffer/api.ErrName", "doffer/api.ErrDup", "doffer/api.ErrDepth", "doffer/api.ErrLoop", "doffer/api.ErrLimit", "doffer/api.ErrSum", "doffer/api.ErrVersion", "doffer/api.ErrIndex", "doffer/api.ErrCredit", "doffer/api.ErrNone", "doffer/api.ErrState", "doffer/api.ErrParked", "doffer/api.ErrTag"], apart := false, laid := [("doffer/api.ErrRange", laid_doffer_api_ErrRange), ("doffer/api.ErrShort", laid_doffer_api_ErrShort), ("doffer/api.ErrLong", laid_doffer_api_ErrLong), ("doffer/api.ErrForm", laid_doffer_api_ErrForm), ("doffer/api.ErrName", laid_doffer_api_ErrName), ("doffer/api.ErrDup", laid_doffer_api_ErrDup), ("doffer/api.ErrDepth", laid_doffer_api_ErrDepth), ("doffer/api.ErrLoop", laid_doffer_api_ErrLoop), ("doffer/api.ErrLimit", laid_doffer_api_ErrLimit), ("doffer/api.ErrSum", laid_doffer_api_ErrSum), ("doffer/api.ErrVersion", laid_doffer_api_ErrVersion), ("doffer/api.ErrIndex", laid_doffer_api_ErrIndex), ("doffer/api.ErrFull", laid_doffer_api_ErrFull), ("doffer/api.ErrCredit", laid_doffer_api_ErrCredit), ("doffer/api.ErrNone", laid_doffer_api_ErrNone), ("doffer/api.ErrState", laid_doffer_api_ErrState), ("doffer/api.ErrParked", laid_doffer_api_ErrParked), ("doffer/api.ErrTag", laid_doffer_api_ErrTag)], narrowed := true }
def RingKeepsUptoSaid : Prop := ringKeepsUptoRow.holds Tryd.pinned (OpenSpec.upto ringKeepsSpec)

/-- 'dofferlaw29.RingTypes', WHERE WHAT IT READS IS OF BULK AT MOST 1048576: true; the input reads as it did. -/
def ringTypesUptoRow : OpenClaim := { program := "ytjohljpcoodijaadoor", sum := "055565da19cb4109cc1d797901d3542b80a7de327f3c2e0f8eb4d01c7228d821", func := "doffer/dofferlaw29.RingTypes", spec := "ringTypes", inPlace := ["internal/reflectlite.TypeOf"], unfollowed := true, recurses := true, named := ["doffer/api.ErrRange", "doffer/api.ErrFull", "doffer/api.ErrShort", "doffer/api.ErrLong", "doffer/api.ErrForm", "doffer/api.ErrName", "doffer/api.ErrDup", "doffer/api.ErrDepth", "doffer/api.ErrLoop", "doffer/api.ErrLimit", "doffer/api.ErrSum", "doffer/api.ErrVersion", "doffer/api.ErrIndex", "doffer/api.ErrCredit", "doffer/api.ErrNone", "doffer/api.ErrState", "doffer/api.ErrParked", "doffer/api.ErrTag"], apart := false, laid := [("doffer/api.ErrRange", laid_doffer_api_ErrRange), ("doffer/api.ErrShort", laid_doffer_api_ErrShort), ("doffer/api.ErrLong", laid_doffer_api_ErrLong), ("doffer/api.ErrForm", laid_doffer_api_ErrForm), ("doffer/api.ErrName", laid_doffer_api_ErrName), ("doffer/api.ErrDup", laid_doffer_api_ErrDup), ("doffer/api.ErrDepth", laid_doffer_api_ErrDepth), ("doffer/api.ErrLoop", laid_doffer_api_ErrLoop), ("doffer/api.ErrLimit", laid_doffer_api_ErrLimit), ("doffer/api.ErrSum", laid_doffer_api_ErrSum), ("doffer/api.ErrVersion", laid_doffer_api_ErrVersion), ("doffer/api.ErrIndex", laid_doffer_api_ErrIndex), ("doffer/api.ErrFull", laid_doffer_api_ErrFull), ("doffer/api.ErrCredit", laid_doffer_api_ErrCredit), ("doffer/api.ErrNone", laid_doffer_api_ErrNone), ("doffer/api.ErrState", laid_doffer_api_ErrState), ("doffer/api.ErrParked", laid_doffer_api_ErrParked), ("doffer/api.ErrTag", laid_doffer_api_ErrTag)], narrowed := true }
def RingTypesUptoSaid : Prop := ringTypesUptoRow.holds Tryd.pinned (OpenSpec.upto ringTypesSpec)

/-- 'dofferlaw04.PackOne', WHERE WHAT IT READS IS OF BULK AT MOST 1048576: true; the input reads as it did. -/
def packOneUptoRow : OpenClaim := { program := "ytjohljpcoodijaadoor", sum := "055565da19cb4109cc1d797901d3542b80a7de327f3c2e0f8eb4d01c7228d821", func := "doffer/dofferlaw04.PackOne", spec := "packOne", named := ["doffer/api.ErrRange", "doffer/api.ErrForm", "doffer/api.ErrShort"], apart := false, laid := [("doffer/api.ErrRange", laid_doffer_api_ErrRange), ("doffer/api.ErrShort", laid_doffer_api_ErrShort), ("doffer/api.ErrForm", laid_doffer_api_ErrForm)], narrowed := true }
def PackOneUptoSaid : Prop := packOneUptoRow.holds Tryd.pinned (OpenSpec.upto packOneSpec)

/-- 'dofferlaw29.RingPlays', WHERE WHAT IT READS IS OF BULK AT MOST 1048576: true; the input reads as it did. -/
def ringPlaysUptoRow : OpenClaim := { program := "ytjohljpcoodijaadoor", sum := "055565da19cb4109cc1d797901d3542b80a7de327f3c2e0f8eb4d01c7228d821", func := "doffer/dofferlaw29.RingPlays", spec := "ringPlays", inPlace := ["internal/reflectlite.TypeOf"], unfollowed := true, recurses := true, named := ["doffer/api.ErrRange", "doffer/api.ErrFull", "doffer/api.ErrShort", "doffer/api.ErrLong", "doffer/api.ErrForm", "doffer/api.ErrName", "doffer/api.ErrDup", "doffer/api.ErrDepth", "doffer/api.ErrLoop", "doffer/api.ErrLimit", "doffer/api.ErrSum", "doffer/api.ErrVersion", "doffer/api.ErrIndex", "doffer/api.ErrCredit", "doffer/api.ErrNone", "doffer/api.ErrState", "doffer/api.ErrParked", "doffer/api.ErrTag"], apart := false, laid := [("doffer/api.ErrRange", laid_doffer_api_ErrRange), ("doffer/api.ErrShort", laid_doffer_api_ErrShort), ("doffer/api.ErrLong", laid_doffer_api_ErrLong), ("doffer/api.ErrForm", laid_doffer_api_ErrForm), ("doffer/api.ErrName", laid_doffer_api_ErrName), ("doffer/api.ErrDup", laid_doffer_api_ErrDup), ("doffer/api.ErrDepth", laid_doffer_api_ErrDepth), ("doffer/api.ErrLoop", laid_doffer_api_ErrLoop), ("doffer/api.ErrLimit", laid_doffer_api_ErrLimit), ("doffer/api.ErrSum", laid_doffer_api_ErrSum), ("doffer/api.ErrVersion", laid_doffer_api_ErrVersion), ("doffer/api.ErrIndex", laid_doffer_api_ErrIndex), ("doffer/api.ErrFull", laid_doffer_api_ErrFull), ("doffer/api.ErrCredit", laid_doffer_api_ErrCredit), ("doffer/api.ErrNone", laid_doffer_api_ErrNone), ("doffer/api.ErrState", laid_doffer_api_ErrState), ("doffer/api.ErrParked", laid_doffer_api_ErrParked), ("doffer/api.ErrTag", laid_doffer_api_ErrTag)], narrowed := true }
def RingPlaysUptoSaid : Prop := ringPlaysUptoRow.holds Tryd.pinned (OpenSpec.upto ringPlaysSpec)

/-- 'dofferlaw33.RobinLeaves', WHERE WHAT IT READS IS OF BULK AT MOST 1048576: true; the input reads as it did. -/
def robinLeavesUptoRow : OpenClaim := { program := "ytjohljpcoodijaadoor", sum := "055565da19cb4109cc1d797901d3542b80a7de327f3c2e0f8eb4d01c7228d821", func := "doffer/dofferlaw33.RobinLeaves", spec := "robinLeaves", unfollowed := true, recurses := true, named := ["doffer/api.ErrRange", "doffer/api.ErrState", "doffer/api.ErrNone"], apart := false, laid := [("doffer/api.ErrRange", laid_doffer_api_ErrRange), ("doffer/api.ErrNone", laid_doffer_api_ErrNone), ("doffer/api.ErrState", laid_doffer_api_ErrState)], narrowed := true }
def RobinLeavesUptoSaid : Prop := robinLeavesUptoRow.holds Tryd.pinned (OpenSpec.upto robinLeavesSpec)

/-- 'dofferlaw33.RobinTurns', WHERE WHAT IT READS IS OF BULK AT MOST 1048576: true; the input reads as it did. -/
def robinTurnsUptoRow : OpenClaim := { program := "ytjohljpcoodijaadoor", sum := "055565da19cb4109cc1d797901d3542b80a7de327f3c2e0f8eb4d01c7228d821", func := "doffer/dofferlaw33.RobinTurns", spec := "robinTurns", inPlace := ["internal/reflectlite.TypeOf"], unfollowed := true, recurses := true, named := ["doffer/api.ErrRange", "doffer/api.ErrState", "doffer/api.ErrNone", "doffer/api.ErrShort", "doffer/api.ErrLong", "doffer/api.ErrForm", "doffer/api.ErrName", "doffer/api.ErrDup", "doffer/api.ErrDepth", "doffer/api.ErrLoop", "doffer/api.ErrLimit", "doffer/api.ErrSum", "doffer/api.ErrVersion", "doffer/api.ErrIndex", "doffer/api.ErrFull", "doffer/api.ErrCredit", "doffer/api.ErrParked", "doffer/api.ErrTag"], apart := false, laid := [("doffer/api.ErrRange", laid_doffer_api_ErrRange), ("doffer/api.ErrShort", laid_doffer_api_ErrShort), ("doffer/api.ErrLong", laid_doffer_api_ErrLong), ("doffer/api.ErrForm", laid_doffer_api_ErrForm), ("doffer/api.ErrName", laid_doffer_api_ErrName), ("doffer/api.ErrDup", laid_doffer_api_ErrDup), ("doffer/api.ErrDepth", laid_doffer_api_ErrDepth), ("doffer/api.ErrLoop", laid_doffer_api_ErrLoop), ("doffer/api.ErrLimit", laid_doffer_api_ErrLimit), ("doffer/api.ErrSum", laid_doffer_api_ErrSum), ("doffer/api.ErrVersion", laid_doffer_api_ErrVersion), ("doffer/api.ErrIndex", laid_doffer_api_ErrIndex), ("doffer/api.ErrFull", laid_doffer_api_ErrFull), ("doffer/api.ErrCredit", laid_doffer_api_ErrCredit), ("doffer/api.ErrNone", laid_doffer_api_ErrNone), ("doffer/api.ErrState", laid_doffer_api_ErrState), ("doffer/api.ErrParked", laid_doffer_api_ErrParked), ("doffer/api.ErrTag", laid_doffer_api_ErrTag)], narrowed := true }
def RobinTurnsUptoSaid : Prop := robinTurnsUptoRow.holds Tryd.pinned (OpenSpec.upto robinTurnsSpec)

/-- 'dofferlaw03.CrcFrames', WHERE WHAT IT READS IS OF BULK AT MOST 1048576: true; the input reads as it did. -/
def crcFramesUptoRow : OpenClaim := { program := "ytjohljpcoodijaadoor", sum := "055565da19cb4109cc1d797901d3542b80a7de327f3c2e0f8eb4d01c7228d821", func := "doffer/dofferlaw03.CrcFrames", spec := "crcFrames", inPlace := ["internal/reflectlite.TypeOf"], unfollowed := true, recurses := true, named := ["doffer/crc.steps", "doffer/api.ErrShort", "doffer/api.ErrSum", "doffer/api.ErrRange", "doffer/api.ErrLong", "doffer/api.ErrForm", "doffer/api.ErrName", "doffer/api.ErrDup", "doffer/api.ErrDepth", "doffer/api.ErrLoop", "doffer/api.ErrLimit", "doffer/api.ErrVersion", "doffer/api.ErrIndex", "doffer/api.ErrFull", "doffer/api.ErrCredit", "doffer/api.ErrNone", "doffer/api.ErrState", "doffer/api.ErrParked", "doffer/api.ErrTag"], apart := false, laid := [("doffer/api.ErrRange", laid_doffer_api_ErrRange), ("doffer/api.ErrShort", laid_doffer_api_ErrShort), ("doffer/api.ErrLong", laid_doffer_api_ErrLong), ("doffer/api.ErrForm", laid_doffer_api_ErrForm), ("doffer/api.ErrName", laid_doffer_api_ErrName), ("doffer/api.ErrDup", laid_doffer_api_ErrDup), ("doffer/api.ErrDepth", laid_doffer_api_ErrDepth), ("doffer/api.ErrLoop", laid_doffer_api_ErrLoop), ("doffer/api.ErrLimit", laid_doffer_api_ErrLimit), ("doffer/api.ErrSum", laid_doffer_api_ErrSum), ("doffer/api.ErrVersion", laid_doffer_api_ErrVersion), ("doffer/api.ErrIndex", laid_doffer_api_ErrIndex), ("doffer/api.ErrFull", laid_doffer_api_ErrFull), ("doffer/api.ErrCredit", laid_doffer_api_ErrCredit), ("doffer/api.ErrNone", laid_doffer_api_ErrNone), ("doffer/api.ErrState", laid_doffer_api_ErrState), ("doffer/api.ErrParked", laid_doffer_api_ErrParked), ("doffer/api.ErrTag", laid_doffer_api_ErrTag), ("doffer/crc.steps", laid_doffer_crc_steps)], narrowed := true }
def CrcFramesUptoSaid : Prop := crcFramesUptoRow.holds Tryd.pinned (OpenSpec.upto crcFramesSpec)

/-- 'dofferlaw03.CrcTurned', WHERE WHAT IT READS IS OF BULK AT MOST 1048576: true; the input reads as it did. -/
def crcTurnedUptoRow : OpenClaim := { program := "ytjohljpcoodijaadoor", sum := "055565da19cb4109cc1d797901d3542b80a7de327f3c2e0f8eb4d01c7228d821", func := "doffer/dofferlaw03.CrcTurned", spec := "crcTurned", inPlace := ["internal/reflectlite.TypeOf"], unfollowed := true, recurses := true, named := ["doffer/crc.steps", "doffer/api.ErrShort", "doffer/api.ErrSum", "doffer/api.ErrRange", "doffer/api.ErrLong", "doffer/api.ErrForm", "doffer/api.ErrName", "doffer/api.ErrDup", "doffer/api.ErrDepth", "doffer/api.ErrLoop", "doffer/api.ErrLimit", "doffer/api.ErrVersion", "doffer/api.ErrIndex", "doffer/api.ErrFull", "doffer/api.ErrCredit", "doffer/api.ErrNone", "doffer/api.ErrState", "doffer/api.ErrParked", "doffer/api.ErrTag"], apart := false, laid := [("doffer/api.ErrRange", laid_doffer_api_ErrRange), ("doffer/api.ErrShort", laid_doffer_api_ErrShort), ("doffer/api.ErrLong", laid_doffer_api_ErrLong), ("doffer/api.ErrForm", laid_doffer_api_ErrForm), ("doffer/api.ErrName", laid_doffer_api_ErrName), ("doffer/api.ErrDup", laid_doffer_api_ErrDup), ("doffer/api.ErrDepth", laid_doffer_api_ErrDepth), ("doffer/api.ErrLoop", laid_doffer_api_ErrLoop), ("doffer/api.ErrLimit", laid_doffer_api_ErrLimit), ("doffer/api.ErrSum", laid_doffer_api_ErrSum), ("doffer/api.ErrVersion", laid_doffer_api_ErrVersion), ("doffer/api.ErrIndex", laid_doffer_api_ErrIndex), ("doffer/api.ErrFull", laid_doffer_api_ErrFull), ("doffer/api.ErrCredit", laid_doffer_api_ErrCredit), ("doffer/api.ErrNone", laid_doffer_api_ErrNone), ("doffer/api.ErrState", laid_doffer_api_ErrState), ("doffer/api.ErrParked", laid_doffer_api_ErrParked), ("doffer/api.ErrTag", laid_doffer_api_ErrTag), ("doffer/crc.steps", laid_doffer_crc_steps)], narrowed := true }
def CrcTurnedUptoSaid : Prop := crcTurnedUptoRow.holds Tryd.pinned (OpenSpec.upto crcTurnedSpec)

/-- 'dofferlaw33.RobinPlays', WHERE WHAT IT READS IS OF BULK AT MOST 1048576: true; the input reads as it did. -/
def robinPlaysUptoRow : OpenClaim := { program := "ytjohljpcoodijaadoor", sum := "055565da19cb4109cc1d797901d3542b80a7de327f3c2e0f8eb4d01c7228d821", func := "doffer/dofferlaw33.RobinPlays", spec := "robinPlays", inPlace := ["internal/reflectlite.TypeOf"], unfollowed := true, recurses := true, named := ["doffer/api.ErrRange", "doffer/api.ErrState", "doffer/api.ErrNone", "doffer/api.ErrShort", "doffer/api.ErrLong", "doffer/api.ErrForm", "doffer/api.ErrName", "doffer/api.ErrDup", "doffer/api.ErrDepth", "doffer/api.ErrLoop", "doffer/api.ErrLimit", "doffer/api.ErrSum", "doffer/api.ErrVersion", "doffer/api.ErrIndex", "doffer/api.ErrFull", "doffer/api.ErrCredit", "doffer/api.ErrParked", "doffer/api.ErrTag"], apart := false, laid := [("doffer/api.ErrRange", laid_doffer_api_ErrRange), ("doffer/api.ErrShort", laid_doffer_api_ErrShort), ("doffer/api.ErrLong", laid_doffer_api_ErrLong), ("doffer/api.ErrForm", laid_doffer_api_ErrForm), ("doffer/api.ErrName", laid_doffer_api_ErrName), ("doffer/api.ErrDup", laid_doffer_api_ErrDup), ("doffer/api.ErrDepth", laid_doffer_api_ErrDepth), ("doffer/api.ErrLoop", laid_doffer_api_ErrLoop), ("doffer/api.ErrLimit", laid_doffer_api_ErrLimit), ("doffer/api.ErrSum", laid_doffer_api_ErrSum), ("doffer/api.ErrVersion", laid_doffer_api_ErrVersion), ("doffer/api.ErrIndex", laid_doffer_api_ErrIndex), ("doffer/api.ErrFull", laid_doffer_api_ErrFull), ("doffer/api.ErrCredit", laid_doffer_api_ErrCredit), ("doffer/api.ErrNone", laid_doffer_api_ErrNone), ("doffer/api.ErrState", laid_doffer_api_ErrState), ("doffer/api.ErrParked", laid_doffer_api_ErrParked), ("doffer/api.ErrTag", laid_doffer_api_ErrTag)], narrowed := true }
def RobinPlaysUptoSaid : Prop := robinPlaysUptoRow.holds Tryd.pinned (OpenSpec.upto robinPlaysSpec)

/-- 'dofferlaw04.PackWrites', WHERE WHAT IT READS IS OF BULK AT MOST 1048576: true; the input reads as it did. -/
def packWritesUptoRow : OpenClaim := { program := "ytjohljpcoodijaadoor", sum := "055565da19cb4109cc1d797901d3542b80a7de327f3c2e0f8eb4d01c7228d821", func := "doffer/dofferlaw04.PackWrites", spec := "packWrites", inPlace := ["internal/reflectlite.TypeOf"], unfollowed := true, recurses := true, named := ["doffer/api.ErrRange", "doffer/api.ErrShort", "doffer/api.ErrLong", "doffer/api.ErrForm", "doffer/api.ErrName", "doffer/api.ErrDup", "doffer/api.ErrDepth", "doffer/api.ErrLoop", "doffer/api.ErrLimit", "doffer/api.ErrSum", "doffer/api.ErrVersion", "doffer/api.ErrIndex", "doffer/api.ErrFull", "doffer/api.ErrCredit", "doffer/api.ErrNone", "doffer/api.ErrState", "doffer/api.ErrParked", "doffer/api.ErrTag"], apart := false, laid := [("doffer/api.ErrRange", laid_doffer_api_ErrRange), ("doffer/api.ErrShort", laid_doffer_api_ErrShort), ("doffer/api.ErrLong", laid_doffer_api_ErrLong), ("doffer/api.ErrForm", laid_doffer_api_ErrForm), ("doffer/api.ErrName", laid_doffer_api_ErrName), ("doffer/api.ErrDup", laid_doffer_api_ErrDup), ("doffer/api.ErrDepth", laid_doffer_api_ErrDepth), ("doffer/api.ErrLoop", laid_doffer_api_ErrLoop), ("doffer/api.ErrLimit", laid_doffer_api_ErrLimit), ("doffer/api.ErrSum", laid_doffer_api_ErrSum), ("doffer/api.ErrVersion", laid_doffer_api_ErrVersion), ("doffer/api.ErrIndex", laid_doffer_api_ErrIndex), ("doffer/api.ErrFull", laid_doffer_api_ErrFull), ("doffer/api.ErrCredit", laid_doffer_api_ErrCredit), ("doffer/api.ErrNone", laid_doffer_api_ErrNone), ("doffer/api.ErrState", laid_doffer_api_ErrState), ("doffer/api.ErrParked", laid_doffer_api_ErrParked), ("doffer/api.ErrTag", laid_doffer_api_ErrTag)], narrowed := true }
def PackWritesUptoSaid : Prop := packWritesUptoRow.holds Tryd.pinned (OpenSpec.upto packWritesSpec)

end Rows
end Go.Proofs.YtjohljpcoodijaaDoor
