/-
  NARROWER THAN 'FOR EVERY INPUT', by the rows' own cells (each row's printed sentence says how): RegexSimple: loops, laid · RegexParses: laid · RegexOpen: laid · SizesEnds: loops, laid · SizesJoin: loops, laid · SizesOften: loops, laid · MatchLaws: loops, laid · MatchEmpty: loops, laid · RegexBack: loops, laid.
  DERIVED. THE GIVEN ROWS OF THIS SEAT. 9 by the template 'for every input the law returns true; each argument reads behind the call as it read before'; 0 by the template 'total and deterministic' (their statements: YtoeeddfinmfnoaaDoorTotals.lean).
  GIVEN WITH THE SEED: the statements are not yours to turn. If you find one false, say at which input.
  Laid BY PROGRAM, IN A SANDBOX (cutbox-rows.mjs): the forced cells as the released guide's own fill.sh prints them over the translation fafc1a2bdafd4f82… (all of the seat's roots in one cut). By AI agents, Wed Nov 11 2026. No macro, syntax, notation, axiom, sorry.
-/
import Derived.Test.YtoeeddfinmfnoaaDoorChecked
import GoSem.Claim
import GoSem.ClaimJoined
import GoSem.ClaimMapViews
import Derived.JoinedTies
import Derived.KernelRfl
namespace Go.Proofs.YtoeeddfinmfnoaaDoor
/- THE CELL 'sum', in the pinned program and in every row, IS THE sha256 OF THE DUMP (.gsa) THAT YtoeeddfinmfnoaaDoorProg.lean LOADS. Nothing in Lean hashes anything: it is a label: what it is worth is what the hold of that sum in a sandbox is worth. -/
noncomputable def Tryd.pinned : Pinned := { name := "ytoeeddfinmfnoaadoor", sum := "fafc1a2bdafd4f827a42a1e4da003ccd7aec2e0f8a1a7b2536599300adfd69d5", checked := Tryd.checked }
namespace Rows
def none {H : Type} : Left H := { results := [], args := [] }

/- WHAT THE LISTED PACKAGE-LEVEL VARIABLES READ AS WHEN THE CALL BEGINS. Each datum BY PROGRAM (the guide's laid-datum.mjs) off the statement by which the dump's own 'gosem.cut.vars' lays the variable. In a bare row this is a premise. The card (YtoeeddfinmfnoaaDoorCards.lean) ties it to the program's text. -/
def laid_doffer_api_ErrRange {H : Type} : DataW H := .iface "*errors.errorString" (.ptr (.agg [.lit (.string [97, 32, 110, 117, 109, 98, 101, 114, 32, 105, 115, 32, 111, 117, 116, 32, 111, 102, 32, 105, 116, 115, 32, 114, 97, 110, 103, 101])]))
def laid_doffer_api_ErrShort {H : Type} : DataW H := .iface "*errors.errorString" (.ptr (.agg [.lit (.string [115, 111, 109, 101, 116, 104, 105, 110, 103, 32, 105, 115, 32, 109, 105, 115, 115, 105, 110, 103])]))
def laid_doffer_api_ErrForm {H : Type} : DataW H := .iface "*errors.errorString" (.ptr (.agg [.lit (.string [105, 116, 32, 105, 115, 32, 110, 111, 116, 32, 111, 102, 32, 105, 116, 115, 32, 102, 111, 114, 109])]))
def laid_doffer_api_ErrName {H : Type} : DataW H := .iface "*errors.errorString" (.ptr (.agg [.lit (.string [116, 104, 101, 114, 101, 32, 105, 115, 32, 110, 111, 32, 115, 117, 99, 104, 32, 110, 97, 109, 101])]))
def laid_doffer_api_ErrDepth {H : Type} : DataW H := .iface "*errors.errorString" (.ptr (.agg [.lit (.string [105, 116, 32, 105, 115, 32, 110, 101, 115, 116, 101, 100, 32, 116, 111, 111, 32, 100, 101, 101, 112])]))
def laid_doffer_api_ErrLimit {H : Type} : DataW H := .iface "*errors.errorString" (.ptr (.agg [.lit (.string [105, 116, 32, 103, 114, 111, 119, 115, 32, 98, 101, 121, 111, 110, 100, 32, 105, 116, 115, 32, 108, 105, 109, 105, 116])]))
def laid_doffer_api_ErrLong {H : Type} : DataW H := .iface "*errors.errorString" (.ptr (.agg [.lit (.string [116, 104, 101, 114, 101, 32, 105, 115, 32, 109, 111, 114, 101, 32, 116, 104, 97, 110, 32, 109, 97, 121, 32, 98, 101])]))
def laid_doffer_api_ErrDup {H : Type} : DataW H := .iface "*errors.errorString" (.ptr (.agg [.lit (.string [116, 104, 101, 114, 101, 32, 105, 115, 32, 111, 110, 101, 32, 97, 108, 114, 101, 97, 100, 121])]))
def laid_doffer_api_ErrLoop {H : Type} : DataW H := .iface "*errors.errorString" (.ptr (.agg [.lit (.string [110, 97, 109, 101, 115, 32, 117, 115, 101, 32, 111, 110, 101, 32, 97, 110, 111, 116, 104, 101, 114, 32, 105, 110, 32, 97, 32, 114, 105, 110, 103])]))
def laid_doffer_api_ErrSum {H : Type} : DataW H := .iface "*errors.errorString" (.ptr (.agg [.lit (.string [116, 104, 101, 32, 99, 104, 101, 99, 107, 32, 115, 117, 109, 32, 105, 115, 32, 110, 111, 116, 32, 114, 105, 103, 104, 116])]))
def laid_doffer_api_ErrVersion {H : Type} : DataW H := .iface "*errors.errorString" (.ptr (.agg [.lit (.string [105, 116, 32, 105, 115, 32, 111, 102, 32, 97, 110, 111, 116, 104, 101, 114, 32, 118, 101, 114, 115, 105, 111, 110])]))
def laid_doffer_api_ErrIndex {H : Type} : DataW H := .iface "*errors.errorString" (.ptr (.agg [.lit (.string [97, 32, 112, 108, 97, 99, 101, 32, 105, 115, 32, 111, 117, 116, 32, 111, 102, 32, 98, 111, 117, 110, 100, 115])]))
def laid_doffer_api_ErrFull {H : Type} : DataW H := .iface "*errors.errorString" (.ptr (.agg [.lit (.string [116, 104, 101, 114, 101, 32, 105, 115, 32, 110, 111, 32, 114, 111, 111, 109])]))
def laid_doffer_api_ErrCredit {H : Type} : DataW H := .iface "*errors.errorString" (.ptr (.agg [.lit (.string [116, 104, 101, 32, 99, 114, 101, 100, 105, 116, 32, 105, 115, 32, 117, 115, 101, 100, 32, 117, 112])]))
def laid_doffer_api_ErrNone {H : Type} : DataW H := .iface "*errors.errorString" (.ptr (.agg [.lit (.string [116, 104, 101, 114, 101, 32, 105, 115, 32, 110, 111, 110, 101])]))
def laid_doffer_api_ErrState {H : Type} : DataW H := .iface "*errors.errorString" (.ptr (.agg [.lit (.string [105, 116, 32, 99, 97, 110, 32, 110, 111, 116, 32, 98, 101, 32, 100, 111, 110, 101, 32, 110, 111, 119])]))
def laid_doffer_api_ErrParked {H : Type} : DataW H := .iface "*errors.errorString" (.ptr (.agg [.lit (.string [105, 116, 32, 119, 97, 105, 116, 115, 32, 102, 111, 114, 32, 105, 116, 115, 32, 111, 117, 116, 112, 117, 116, 32, 116, 111, 32, 98, 101, 32, 116, 97, 107, 101, 110])]))
def laid_doffer_api_ErrTag {H : Type} : DataW H := .iface "*errors.errorString" (.ptr (.agg [.lit (.string [97, 110, 111, 116, 104, 101, 114, 32, 107, 105, 110, 100, 32, 105, 115, 32, 119, 97, 110, 116, 101, 100])]))
def laid_math_bits_deBruijn64tab {H : Type} : DataW H := .agg [.lit (.int .u8 0), .lit (.int .u8 1), .lit (.int .u8 56), .lit (.int .u8 2), .lit (.int .u8 57), .lit (.int .u8 49), .lit (.int .u8 28), .lit (.int .u8 3), .lit (.int .u8 61), .lit (.int .u8 58), .lit (.int .u8 42), .lit (.int .u8 50), .lit (.int .u8 38), .lit (.int .u8 29), .lit (.int .u8 17), .lit (.int .u8 4), .lit (.int .u8 62), .lit (.int .u8 47), .lit (.int .u8 59), .lit (.int .u8 36), .lit (.int .u8 45), .lit (.int .u8 43), .lit (.int .u8 51), .lit (.int .u8 22), .lit (.int .u8 53), .lit (.int .u8 39), .lit (.int .u8 33), .lit (.int .u8 30), .lit (.int .u8 24), .lit (.int .u8 18), .lit (.int .u8 12), .lit (.int .u8 5), .lit (.int .u8 63), .lit (.int .u8 55), .lit (.int .u8 48), .lit (.int .u8 27), .lit (.int .u8 60), .lit (.int .u8 41), .lit (.int .u8 37), .lit (.int .u8 16), .lit (.int .u8 46), .lit (.int .u8 35), .lit (.int .u8 44), .lit (.int .u8 21), .lit (.int .u8 52), .lit (.int .u8 32), .lit (.int .u8 23), .lit (.int .u8 11), .lit (.int .u8 54), .lit (.int .u8 26), .lit (.int .u8 40), .lit (.int .u8 15), .lit (.int .u8 34), .lit (.int .u8 20), .lit (.int .u8 31), .lit (.int .u8 10), .lit (.int .u8 25), .lit (.int .u8 14), .lit (.int .u8 19), .lit (.int .u8 9), .lit (.int .u8 13), .lit (.int .u8 8), .lit (.int .u8 7), .lit (.int .u8 6)]

/-- 'dofferlaw08.RegexSimple': WHATEVER THE INPUT: true; the input reads as it did. -/
def regexSimpleSpec : ChangeSpec := { name := "regexSimple", fn := fun _ => fun
  | [d] => { results := [.lit (.bool true)], args := [d] }
  | _ => none }
def regexSimpleRow : OpenClaim := { program := "ytoeeddfinmfnoaadoor", sum := "fafc1a2bdafd4f827a42a1e4da003ccd7aec2e0f8a1a7b2536599300adfd69d5", func := "doffer/dofferlaw08.RegexSimple", spec := "regexSimple", inPlace := ["internal/bytealg.IndexByteString"], unfollowed := true, recurses := true, named := ["doffer/api.ErrForm", "doffer/api.ErrDepth", "doffer/api.ErrLimit", "doffer/api.ErrShort", "doffer/api.ErrRange", "doffer/api.ErrName"], loops := true, apart := false, laid := [("doffer/api.ErrRange", laid_doffer_api_ErrRange), ("doffer/api.ErrShort", laid_doffer_api_ErrShort), ("doffer/api.ErrForm", laid_doffer_api_ErrForm), ("doffer/api.ErrName", laid_doffer_api_ErrName), ("doffer/api.ErrDepth", laid_doffer_api_ErrDepth), ("doffer/api.ErrLimit", laid_doffer_api_ErrLimit)] }
def RegexSimpleSaid : Prop := regexSimpleRow.holds Tryd.pinned (OpenSpec.ofChange regexSimpleSpec)

/-- ITS FALSE NEIGHBOUR: 'it returns false'. Refute it at one input. -/
def regexSimpleWrong : ChangeSpec := { name := "regexSimple", fn := fun _ => fun
  | [d] => { results := [.lit (.bool false)], args := [d] }
  | _ => none }
def RegexSimpleWrongFalsely : Prop := regexSimpleRow.holds Tryd.pinned (OpenSpec.ofChange regexSimpleWrong)

/-- 'dofferlaw08.RegexParses': WHATEVER THE INPUT: true; the input reads as it did. -/
def regexParsesSpec : ChangeSpec := { name := "regexParses", fn := fun _ => fun
  | [d] => { results := [.lit (.bool true)], args := [d] }
  | _ => none }
def regexParsesRow : OpenClaim := { program := "ytoeeddfinmfnoaadoor", sum := "fafc1a2bdafd4f827a42a1e4da003ccd7aec2e0f8a1a7b2536599300adfd69d5", func := "doffer/dofferlaw08.RegexParses", spec := "regexParses", inPlace := ["internal/bytealg.IndexByteString", "internal/reflectlite.TypeOf"], unfollowed := true, recurses := true, named := ["doffer/api.ErrForm", "doffer/api.ErrDepth", "doffer/api.ErrLimit", "doffer/api.ErrShort", "doffer/api.ErrRange", "doffer/api.ErrName", "doffer/api.ErrLong", "doffer/api.ErrDup", "doffer/api.ErrLoop", "doffer/api.ErrSum", "doffer/api.ErrVersion", "doffer/api.ErrIndex", "doffer/api.ErrFull", "doffer/api.ErrCredit", "doffer/api.ErrNone", "doffer/api.ErrState", "doffer/api.ErrParked", "doffer/api.ErrTag"], apart := false, laid := [("doffer/api.ErrRange", laid_doffer_api_ErrRange), ("doffer/api.ErrShort", laid_doffer_api_ErrShort), ("doffer/api.ErrLong", laid_doffer_api_ErrLong), ("doffer/api.ErrForm", laid_doffer_api_ErrForm), ("doffer/api.ErrName", laid_doffer_api_ErrName), ("doffer/api.ErrDup", laid_doffer_api_ErrDup), ("doffer/api.ErrDepth", laid_doffer_api_ErrDepth), ("doffer/api.ErrLoop", laid_doffer_api_ErrLoop), ("doffer/api.ErrLimit", laid_doffer_api_ErrLimit), ("doffer/api.ErrSum", laid_doffer_api_ErrSum), ("doffer/api.ErrVersion", laid_doffer_api_ErrVersion), ("doffer/api.ErrIndex", laid_doffer_api_ErrIndex), ("doffer/api.ErrFull", laid_doffer_api_ErrFull), ("doffer/api.ErrCredit", laid_doffer_api_ErrCredit), ("doffer/api.ErrNone", laid_doffer_api_ErrNone), ("doffer/api.ErrState", laid_doffer_api_ErrState), ("doffer/api.ErrParked", laid_doffer_api_ErrParked), ("doffer/api.ErrTag", laid_doffer_api_ErrTag)] }
def RegexParsesSaid : Prop := regexParsesRow.holds Tryd.pinned (OpenSpec.ofChange regexParsesSpec)

/-- ITS FALSE NEIGHBOUR: 'it returns false'. Refute it at one input. -/
def regexParsesWrong : ChangeSpec := { name := "regexParses", fn := fun _ => fun
  | [d] => { results := [.lit (.bool false)], args := [d] }
  | _ => none }
def RegexParsesWrongFalsely : Prop := regexParsesRow.holds Tryd.pinned (OpenSpec.ofChange regexParsesWrong)

/-- 'dofferlaw08.RegexOpen': WHATEVER THE INPUT: true; the input reads as it did. -/
def regexOpenSpec : ChangeSpec := { name := "regexOpen", fn := fun _ => fun
  | [d] => { results := [.lit (.bool true)], args := [d] }
  | _ => none }
def regexOpenRow : OpenClaim := { program := "ytoeeddfinmfnoaadoor", sum := "fafc1a2bdafd4f827a42a1e4da003ccd7aec2e0f8a1a7b2536599300adfd69d5", func := "doffer/dofferlaw08.RegexOpen", spec := "regexOpen", inPlace := ["internal/bytealg.IndexByteString", "internal/reflectlite.TypeOf"], unfollowed := true, recurses := true, named := ["doffer/api.ErrForm", "doffer/api.ErrDepth", "doffer/api.ErrLimit", "doffer/api.ErrShort", "doffer/api.ErrRange", "doffer/api.ErrName", "doffer/api.ErrLong", "doffer/api.ErrDup", "doffer/api.ErrLoop", "doffer/api.ErrSum", "doffer/api.ErrVersion", "doffer/api.ErrIndex", "doffer/api.ErrFull", "doffer/api.ErrCredit", "doffer/api.ErrNone", "doffer/api.ErrState", "doffer/api.ErrParked", "doffer/api.ErrTag"], apart := false, laid := [("doffer/api.ErrRange", laid_doffer_api_ErrRange), ("doffer/api.ErrShort", laid_doffer_api_ErrShort), ("doffer/api.ErrLong", laid_doffer_api_ErrLong), ("doffer/api.ErrForm", laid_doffer_api_ErrForm), ("doffer/api.ErrName", laid_doffer_api_ErrName), ("doffer/api.ErrDup", laid_doffer_api_ErrDup), ("doffer/api.ErrDepth", laid_doffer_api_ErrDepth), ("doffer/api.ErrLoop", laid_doffer_api_ErrLoop), ("doffer/api.ErrLimit", laid_doffer_api_ErrLimit), ("doffer/api.ErrSum", laid_doffer_api_ErrSum), ("doffer/api.ErrVersion", laid_doffer_api_ErrVersion), ("doffer/api.ErrIndex", laid_doffer_api_ErrIndex), ("doffer/api.ErrFull", laid_doffer_api_ErrFull), ("doffer/api.ErrCredit", laid_doffer_api_ErrCredit), ("doffer/api.ErrNone", laid_doffer_api_ErrNone), ("doffer/api.ErrState", laid_doffer_api_ErrState), ("doffer/api.ErrParked", laid_doffer_api_ErrParked), ("doffer/api.ErrTag", laid_doffer_api_ErrTag)] }
def RegexOpenSaid : Prop := regexOpenRow.holds Tryd.pinned (OpenSpec.ofChange regexOpenSpec)

/-- ITS FALSE NEIGHBOUR: 'it returns false'. Refute it at one input. -/
def regexOpenWrong : ChangeSpec := { name := "regexOpen", fn := fun _ => fun
  | [d] => { results := [.lit (.bool false)], args := [d] }
  | _ => none }
def RegexOpenWrongFalsely : Prop := regexOpenRow.holds Tryd.pinned (OpenSpec.ofChange regexOpenWrong)

/-- 'dofferlaw09.SizesEnds': WHATEVER THE INPUT: true; the input reads as it did. -/
def sizesEndsSpec : ChangeSpec := { name := "sizesEnds", fn := fun _ => fun
  | [d] => { results := [.lit (.bool true)], args := [d] }
  | _ => none }
def sizesEndsRow : OpenClaim := { program := "ytoeeddfinmfnoaadoor", sum := "fafc1a2bdafd4f827a42a1e4da003ccd7aec2e0f8a1a7b2536599300adfd69d5", func := "doffer/dofferlaw09.SizesEnds", spec := "sizesEnds", inPlace := ["internal/bytealg.IndexByteString"], unfollowed := true, recurses := true, named := ["doffer/api.ErrForm", "doffer/api.ErrDepth", "doffer/api.ErrLimit", "doffer/api.ErrShort", "doffer/api.ErrRange", "doffer/api.ErrName"], loops := true, apart := false, laid := [("doffer/api.ErrRange", laid_doffer_api_ErrRange), ("doffer/api.ErrShort", laid_doffer_api_ErrShort), ("doffer/api.ErrForm", laid_doffer_api_ErrForm), ("doffer/api.ErrName", laid_doffer_api_ErrName), ("doffer/api.ErrDepth", laid_doffer_api_ErrDepth), ("doffer/api.ErrLimit", laid_doffer_api_ErrLimit)] }
def SizesEndsSaid : Prop := sizesEndsRow.holds Tryd.pinned (OpenSpec.ofChange sizesEndsSpec)

/-- ITS FALSE NEIGHBOUR: 'it returns false'. Refute it at one input. -/
def sizesEndsWrong : ChangeSpec := { name := "sizesEnds", fn := fun _ => fun
  | [d] => { results := [.lit (.bool false)], args := [d] }
  | _ => none }
def SizesEndsWrongFalsely : Prop := sizesEndsRow.holds Tryd.pinned (OpenSpec.ofChange sizesEndsWrong)

/-- 'dofferlaw09.SizesJoin': WHATEVER THE INPUT: true; the input reads as it did. -/
def sizesJoinSpec : ChangeSpec := { name := "sizesJoin", fn := fun _ => fun
  | [d1, d2] => { results := [.lit (.bool true)], args := [d1, d2] }
  | _ => none }
def sizesJoinRow : OpenClaim := { program := "ytoeeddfinmfnoaadoor", sum := "fafc1a2bdafd4f827a42a1e4da003ccd7aec2e0f8a1a7b2536599300adfd69d5", func := "doffer/dofferlaw09.SizesJoin", spec := "sizesJoin", inPlace := ["internal/bytealg.IndexByteString"], unfollowed := true, recurses := true, named := ["doffer/api.ErrForm", "doffer/api.ErrDepth", "doffer/api.ErrLimit", "doffer/api.ErrShort", "doffer/api.ErrRange", "doffer/api.ErrName"], loops := true, apart := false, laid := [("doffer/api.ErrRange", laid_doffer_api_ErrRange), ("doffer/api.ErrShort", laid_doffer_api_ErrShort), ("doffer/api.ErrForm", laid_doffer_api_ErrForm), ("doffer/api.ErrName", laid_doffer_api_ErrName), ("doffer/api.ErrDepth", laid_doffer_api_ErrDepth), ("doffer/api.ErrLimit", laid_doffer_api_ErrLimit)] }
def SizesJoinSaid : Prop := sizesJoinRow.holds Tryd.pinned (OpenSpec.ofChange sizesJoinSpec)

/-- ITS FALSE NEIGHBOUR: 'it returns false'. Refute it at one input. -/
def sizesJoinWrong : ChangeSpec := { name := "sizesJoin", fn := fun _ => fun
  | [d1, d2] => { results := [.lit (.bool false)], args := [d1, d2] }
  | _ => none }
def SizesJoinWrongFalsely : Prop := sizesJoinRow.holds Tryd.pinned (OpenSpec.ofChange sizesJoinWrong)

/-- 'dofferlaw09.SizesOften': WHATEVER THE INPUT: true; the input reads as it did. -/
def sizesOftenSpec : ChangeSpec := { name := "sizesOften", fn := fun _ => fun
  | [d1, d2, d3] => { results := [.lit (.bool true)], args := [d1, d2, d3] }
  | _ => none }
def sizesOftenRow : OpenClaim := { program := "ytoeeddfinmfnoaadoor", sum := "fafc1a2bdafd4f827a42a1e4da003ccd7aec2e0f8a1a7b2536599300adfd69d5", func := "doffer/dofferlaw09.SizesOften", spec := "sizesOften", inPlace := ["internal/bytealg.IndexByteString"], unfollowed := true, recurses := true, named := ["doffer/api.ErrForm", "doffer/api.ErrDepth", "doffer/api.ErrLimit", "doffer/api.ErrShort", "doffer/api.ErrRange", "doffer/api.ErrName"], loops := true, apart := false, laid := [("doffer/api.ErrRange", laid_doffer_api_ErrRange), ("doffer/api.ErrShort", laid_doffer_api_ErrShort), ("doffer/api.ErrForm", laid_doffer_api_ErrForm), ("doffer/api.ErrName", laid_doffer_api_ErrName), ("doffer/api.ErrDepth", laid_doffer_api_ErrDepth), ("doffer/api.ErrLimit", laid_doffer_api_ErrLimit)] }
def SizesOftenSaid : Prop := sizesOftenRow.holds Tryd.pinned (OpenSpec.ofChange sizesOftenSpec)

/-- ITS FALSE NEIGHBOUR: 'it returns false'. Refute it at one input. -/
def sizesOftenWrong : ChangeSpec := { name := "sizesOften", fn := fun _ => fun
  | [d1, d2, d3] => { results := [.lit (.bool false)], args := [d1, d2, d3] }
  | _ => none }
def SizesOftenWrongFalsely : Prop := sizesOftenRow.holds Tryd.pinned (OpenSpec.ofChange sizesOftenWrong)

/-- 'dofferlaw10.MatchLaws': WHATEVER THE INPUT: true; the input reads as it did. -/
def matchLawsSpec : ChangeSpec := { name := "matchLaws", fn := fun _ => fun
  | [d1, d2, d3] => { results := [.lit (.bool true)], args := [d1, d2, d3] }
  | _ => none }
def matchLawsRow : OpenClaim := { program := "ytoeeddfinmfnoaadoor", sum := "fafc1a2bdafd4f827a42a1e4da003ccd7aec2e0f8a1a7b2536599300adfd69d5", func := "doffer/dofferlaw10.MatchLaws", spec := "matchLaws", inPlace := ["internal/bytealg.IndexByteString"], unfollowed := true, recurses := true, named := ["doffer/api.ErrForm", "doffer/api.ErrDepth", "doffer/api.ErrLimit", "doffer/api.ErrShort", "doffer/api.ErrRange", "doffer/api.ErrName", "math/bits.deBruijn64tab"], loops := true, apart := false, laid := [("math/bits.deBruijn64tab", laid_math_bits_deBruijn64tab), ("doffer/api.ErrRange", laid_doffer_api_ErrRange), ("doffer/api.ErrShort", laid_doffer_api_ErrShort), ("doffer/api.ErrForm", laid_doffer_api_ErrForm), ("doffer/api.ErrName", laid_doffer_api_ErrName), ("doffer/api.ErrDepth", laid_doffer_api_ErrDepth), ("doffer/api.ErrLimit", laid_doffer_api_ErrLimit)] }
def MatchLawsSaid : Prop := matchLawsRow.holds Tryd.pinned (OpenSpec.ofChange matchLawsSpec)

/-- ITS FALSE NEIGHBOUR: 'it returns false'. Refute it at one input. -/
def matchLawsWrong : ChangeSpec := { name := "matchLaws", fn := fun _ => fun
  | [d1, d2, d3] => { results := [.lit (.bool false)], args := [d1, d2, d3] }
  | _ => none }
def MatchLawsWrongFalsely : Prop := matchLawsRow.holds Tryd.pinned (OpenSpec.ofChange matchLawsWrong)

/-- 'dofferlaw10.MatchEmpty': WHATEVER THE INPUT: true; the input reads as it did. -/
def matchEmptySpec : ChangeSpec := { name := "matchEmpty", fn := fun _ => fun
  | [d1, d2] => { results := [.lit (.bool true)], args := [d1, d2] }
  | _ => none }
def matchEmptyRow : OpenClaim := { program := "ytoeeddfinmfnoaadoor", sum := "fafc1a2bdafd4f827a42a1e4da003ccd7aec2e0f8a1a7b2536599300adfd69d5", func := "doffer/dofferlaw10.MatchEmpty", spec := "matchEmpty", inPlace := ["internal/bytealg.IndexByteString"], unfollowed := true, recurses := true, named := ["doffer/api.ErrForm", "doffer/api.ErrDepth", "doffer/api.ErrLimit", "doffer/api.ErrShort", "doffer/api.ErrRange", "doffer/api.ErrName", "math/bits.deBruijn64tab"], loops := true, apart := false, laid := [("math/bits.deBruijn64tab", laid_math_bits_deBruijn64tab), ("doffer/api.ErrRange", laid_doffer_api_ErrRange), ("doffer/api.ErrShort", laid_doffer_api_ErrShort), ("doffer/api.ErrForm", laid_doffer_api_ErrForm), ("doffer/api.ErrName", laid_doffer_api_ErrName), ("doffer/api.ErrDepth", laid_doffer_api_ErrDepth), ("doffer/api.ErrLimit", laid_doffer_api_ErrLimit)] }
def MatchEmptySaid : Prop := matchEmptyRow.holds Tryd.pinned (OpenSpec.ofChange matchEmptySpec)

/-- ITS FALSE NEIGHBOUR: 'it returns false'. Refute it at one input. -/
def matchEmptyWrong : ChangeSpec := { name := "matchEmpty", fn := fun _ => fun
  | [d1, d2] => { results := [.lit (.bool false)], args := [d1, d2] }
  | _ => none }
def MatchEmptyWrongFalsely : Prop := matchEmptyRow.holds Tryd.pinned (OpenSpec.ofChange matchEmptyWrong)

/-- 'dofferlaw08.RegexBack': WHATEVER THE INPUT: true; the input reads as it did. -/
def regexBackSpec : ChangeSpec := { name := "regexBack", fn := fun _ => fun
  | [d] => { results := [.lit (.bool true)], args := [d] }
  | _ => none }
def regexBackRow : OpenClaim := { program := "ytoeeddfinmfnoaadoor", sum := "fafc1a2bdafd4f827a42a1e4da003ccd7aec2e0f8a1a7b2536599300adfd69d5", func := "doffer/dofferlaw08.RegexBack", spec := "regexBack", inPlace := ["internal/bytealg.IndexByteString", "internal/abi.NoEscape", "internal/bytealg.MakeNoZero"], unfollowed := true, recurses := true, named := ["doffer/api.ErrForm", "doffer/api.ErrDepth", "doffer/api.ErrLimit", "doffer/api.ErrShort", "doffer/api.ErrRange", "doffer/api.ErrName", "math/bits.deBruijn64tab"], loops := true, apart := false, laid := [("math/bits.deBruijn64tab", laid_math_bits_deBruijn64tab), ("doffer/api.ErrRange", laid_doffer_api_ErrRange), ("doffer/api.ErrShort", laid_doffer_api_ErrShort), ("doffer/api.ErrForm", laid_doffer_api_ErrForm), ("doffer/api.ErrName", laid_doffer_api_ErrName), ("doffer/api.ErrDepth", laid_doffer_api_ErrDepth), ("doffer/api.ErrLimit", laid_doffer_api_ErrLimit)] }
def RegexBackSaid : Prop := regexBackRow.holds Tryd.pinned (OpenSpec.ofChange regexBackSpec)

/-- ITS FALSE NEIGHBOUR: 'it returns false'. Refute it at one input. -/
def regexBackWrong : ChangeSpec := { name := "regexBack", fn := fun _ => fun
  | [d] => { results := [.lit (.bool false)], args := [d] }
  | _ => none }
def RegexBackWrongFalsely : Prop := regexBackRow.holds Tryd.pinned (OpenSpec.ofChange regexBackWrong)

/- THE SECOND FORM. 'bulk': how many values and letters a reading holds, each counted each time it is reached (what is shared counts as often as it is met; a slice's spare places count too). A statement '..UptoSaid' is the law's where the arguments, and the package variables that the reading takes, are together of bulk at most 1048576: NARROWER than '..Said'. Prove '..Said' where nothing that the law and all that it calls make is longer than what came in: it says more and counts as full. Else prove '..UptoSaid'. A law counts once. -/
mutual
def uptoBulk {H : Type} : DataW H → Nat
  | .lit (.string bytes) => bytes.length + 1
  | .lit _ => 1
  | .nil => 1
  | .ptr d => uptoBulk d + 1
  | .slice elems spare => uptoBulkAll elems + uptoBulkAll spare + 1
  | .agg parts => uptoBulkAll parts + 1
  | .iface _ d => uptoBulk d + 1
  | .map entries => uptoBulkEntries entries + 1
  | .held _ => 1
def uptoBulkAll {H : Type} : List (DataW H) → Nat
  | [] => 0
  | d :: r => uptoBulk d + uptoBulkAll r
def uptoBulkEntries {H : Type} : List (Lit × DataW H) → Nat
  | [] => 0
  | x :: r => uptoBulkEntry x + uptoBulkEntries r
def uptoBulkEntry {H : Type} : Lit × DataW H → Nat
  | (.string bytes, d) => bytes.length + uptoBulk d + 1
  | (_, d) => uptoBulk d + 1
 end
def uptoSmall : (H : Type) → List (DataW H) → Bool := fun _ ds => decide (uptoBulkAll ds ≤ 1048576)
def OpenSpec.upto (s : _root_.Go.ChangeSpec) : _root_.Go.OpenSpec := { _root_.Go.OpenSpec.ofChange s with cond := some uptoSmall }

/-- 'dofferlaw08.RegexSimple', WHERE WHAT IT READS IS OF BULK AT MOST 1048576: true; the input reads as it did. -/
def regexSimpleUptoRow : OpenClaim := { program := "ytoeeddfinmfnoaadoor", sum := "fafc1a2bdafd4f827a42a1e4da003ccd7aec2e0f8a1a7b2536599300adfd69d5", func := "doffer/dofferlaw08.RegexSimple", spec := "regexSimple", inPlace := ["internal/bytealg.IndexByteString"], unfollowed := true, recurses := true, named := ["doffer/api.ErrForm", "doffer/api.ErrDepth", "doffer/api.ErrLimit", "doffer/api.ErrShort", "doffer/api.ErrRange", "doffer/api.ErrName"], loops := true, apart := false, laid := [("doffer/api.ErrRange", laid_doffer_api_ErrRange), ("doffer/api.ErrShort", laid_doffer_api_ErrShort), ("doffer/api.ErrForm", laid_doffer_api_ErrForm), ("doffer/api.ErrName", laid_doffer_api_ErrName), ("doffer/api.ErrDepth", laid_doffer_api_ErrDepth), ("doffer/api.ErrLimit", laid_doffer_api_ErrLimit)], narrowed := true }
def RegexSimpleUptoSaid : Prop := regexSimpleUptoRow.holds Tryd.pinned (OpenSpec.upto regexSimpleSpec)

/-- 'dofferlaw08.RegexParses', WHERE WHAT IT READS IS OF BULK AT MOST 1048576: true; the input reads as it did. -/
def regexParsesUptoRow : OpenClaim := { program := "ytoeeddfinmfnoaadoor", sum := "fafc1a2bdafd4f827a42a1e4da003ccd7aec2e0f8a1a7b2536599300adfd69d5", func := "doffer/dofferlaw08.RegexParses", spec := "regexParses", inPlace := ["internal/bytealg.IndexByteString", "internal/reflectlite.TypeOf"], unfollowed := true, recurses := true, named := ["doffer/api.ErrForm", "doffer/api.ErrDepth", "doffer/api.ErrLimit", "doffer/api.ErrShort", "doffer/api.ErrRange", "doffer/api.ErrName", "doffer/api.ErrLong", "doffer/api.ErrDup", "doffer/api.ErrLoop", "doffer/api.ErrSum", "doffer/api.ErrVersion", "doffer/api.ErrIndex", "doffer/api.ErrFull", "doffer/api.ErrCredit", "doffer/api.ErrNone", "doffer/api.ErrState", "doffer/api.ErrParked", "doffer/api.ErrTag"], apart := false, laid := [("doffer/api.ErrRange", laid_doffer_api_ErrRange), ("doffer/api.ErrShort", laid_doffer_api_ErrShort), ("doffer/api.ErrLong", laid_doffer_api_ErrLong), ("doffer/api.ErrForm", laid_doffer_api_ErrForm), ("doffer/api.ErrName", laid_doffer_api_ErrName), ("doffer/api.ErrDup", laid_doffer_api_ErrDup), ("doffer/api.ErrDepth", laid_doffer_api_ErrDepth), ("doffer/api.ErrLoop", laid_doffer_api_ErrLoop), ("doffer/api.ErrLimit", laid_doffer_api_ErrLimit), ("doffer/api.ErrSum", laid_doffer_api_ErrSum), ("doffer/api.ErrVersion", laid_doffer_api_ErrVersion), ("doffer/api.ErrIndex", laid_doffer_api_ErrIndex), ("doffer/api.ErrFull", laid_doffer_api_ErrFull), ("doffer/api.ErrCredit", laid_doffer_api_ErrCredit), ("doffer/api.ErrNone", laid_doffer_api_ErrNone), ("doffer/api.ErrState", laid_doffer_api_ErrState), ("doffer/api.ErrParked", laid_doffer_api_ErrParked), ("doffer/api.ErrTag", laid_doffer_api_ErrTag)], narrowed := true }
def RegexParsesUptoSaid : Prop := regexParsesUptoRow.holds Tryd.pinned (OpenSpec.upto regexParsesSpec)

/-- 'dofferlaw08.RegexOpen', WHERE WHAT IT READS IS OF BULK AT MOST 1048576: true; the input reads as it did. -/
def regexOpenUptoRow : OpenClaim := { program := "ytoeeddfinmfnoaadoor", sum := "fafc1a2bdafd4f827a42a1e4da003ccd7aec2e0f8a1a7b2536599300adfd69d5", func := "doffer/dofferlaw08.RegexOpen", spec := "regexOpen", inPlace := ["internal/bytealg.IndexByteString", "internal/reflectlite.TypeOf"], unfollowed := true, recurses := true, named := ["doffer/api.ErrForm", "doffer/api.ErrDepth", "doffer/api.ErrLimit", "doffer/api.ErrShort", "doffer/api.ErrRange", "doffer/api.ErrName", "doffer/api.ErrLong", "doffer/api.ErrDup", "doffer/api.ErrLoop", "doffer/api.ErrSum", "doffer/api.ErrVersion", "doffer/api.ErrIndex", "doffer/api.ErrFull", "doffer/api.ErrCredit", "doffer/api.ErrNone", "doffer/api.ErrState", "doffer/api.ErrParked", "doffer/api.ErrTag"], apart := false, laid := [("doffer/api.ErrRange", laid_doffer_api_ErrRange), ("doffer/api.ErrShort", laid_doffer_api_ErrShort), ("doffer/api.ErrLong", laid_doffer_api_ErrLong), ("doffer/api.ErrForm", laid_doffer_api_ErrForm), ("doffer/api.ErrName", laid_doffer_api_ErrName), ("doffer/api.ErrDup", laid_doffer_api_ErrDup), ("doffer/api.ErrDepth", laid_doffer_api_ErrDepth), ("doffer/api.ErrLoop", laid_doffer_api_ErrLoop), ("doffer/api.ErrLimit", laid_doffer_api_ErrLimit), ("doffer/api.ErrSum", laid_doffer_api_ErrSum), ("doffer/api.ErrVersion", laid_doffer_api_ErrVersion), ("doffer/api.ErrIndex", laid_doffer_api_ErrIndex), ("doffer/api.ErrFull", laid_doffer_api_ErrFull), ("doffer/api.ErrCredit", laid_doffer_api_ErrCredit), ("doffer/api.ErrNone", laid_doffer_api_ErrNone), ("doffer/api.ErrState", laid_doffer_api_ErrState), ("doffer/api.ErrParked", laid_doffer_api_ErrParked), ("doffer/api.ErrTag", laid_doffer_api_ErrTag)], narrowed := true }
def RegexOpenUptoSaid : Prop := regexOpenUptoRow.holds Tryd.pinned (OpenSpec.upto regexOpenSpec)

/-- 'dofferlaw09.SizesEnds', WHERE WHAT IT READS IS OF BULK AT MOST 1048576: true; the input reads as it did. -/
def sizesEndsUptoRow : OpenClaim := { program := "ytoeeddfinmfnoaadoor", sum := "fafc1a2bdafd4f827a42a1e4da003ccd7aec2e0f8a1a7b2536599300adfd69d5", func := "doffer/dofferlaw09.SizesEnds", spec := "sizesEnds", inPlace := ["internal/bytealg.IndexByteString"], unfollowed := true, recurses := true, named := ["doffer/api.ErrForm", "doffer/api.ErrDepth", "doffer/api.ErrLimit", "doffer/api.ErrShort", "doffer/api.ErrRange", "doffer/api.ErrName"], loops := true, apart := false, laid := [("doffer/api.ErrRange", laid_doffer_api_ErrRange), ("doffer/api.ErrShort", laid_doffer_api_ErrShort), ("doffer/api.ErrForm", laid_doffer_api_ErrForm), ("doffer/api.ErrName", laid_doffer_api_ErrName), ("doffer/api.ErrDepth", laid_doffer_api_ErrDepth), ("doffer/api.ErrLimit", laid_doffer_api_ErrLimit)], narrowed := true }
def SizesEndsUptoSaid : Prop := sizesEndsUptoRow.holds Tryd.pinned (OpenSpec.upto sizesEndsSpec)

/-- 'dofferlaw09.SizesJoin', WHERE WHAT IT READS IS OF BULK AT MOST 1048576: true; the input reads as it did. -/
def sizesJoinUptoRow : OpenClaim := { program := "ytoeeddfinmfnoaadoor", sum := "fafc1a2bdafd4f827a42a1e4da003ccd7aec2e0f8a1a7b2536599300adfd69d5", func := "doffer/dofferlaw09.SizesJoin", spec := "sizesJoin", inPlace := ["internal/bytealg.IndexByteString"], unfollowed := true, recurses := true, named := ["doffer/api.ErrForm", "doffer/api.ErrDepth", "doffer/api.ErrLimit", "doffer/api.ErrShort", "doffer/api.ErrRange", "doffer/api.ErrName"], loops := true, apart := false, laid := [("doffer/api.ErrRange", laid_doffer_api_ErrRange), ("doffer/api.ErrShort", laid_doffer_api_ErrShort), ("doffer/api.ErrForm", laid_doffer_api_ErrForm), ("doffer/api.ErrName", laid_doffer_api_ErrName), ("doffer/api.ErrDepth", laid_doffer_api_ErrDepth), ("doffer/api.ErrLimit", laid_doffer_api_ErrLimit)], narrowed := true }
def SizesJoinUptoSaid : Prop := sizesJoinUptoRow.holds Tryd.pinned (OpenSpec.upto sizesJoinSpec)

/-- 'dofferlaw09.SizesOften', WHERE WHAT IT READS IS OF BULK AT MOST 1048576: true; the input reads as it did. -/
def sizesOftenUptoRow : OpenClaim := { program := "ytoeeddfinmfnoaadoor", sum := "fafc1a2bdafd4f827a42a1e4da003ccd7aec2e0f8a1a7b2536599300adfd69d5", func := "doffer/dofferlaw09.SizesOften", spec := "sizesOften", inPlace := ["internal/bytealg.IndexByteString"], unfollowed := true, recurses := true, named := ["doffer/api.ErrForm", "doffer/api.ErrDepth", "doffer/api.ErrLimit", "doffer/api.ErrShort", "doffer/api.ErrRange", "doffer/api.ErrName"], loops := true, apart := false, laid := [("doffer/api.ErrRange", laid_doffer_api_ErrRange), ("doffer/api.ErrShort", laid_doffer_api_ErrShort), ("doffer/api.ErrForm", laid_doffer_api_ErrForm), ("doffer/api.ErrName", laid_doffer_api_ErrName), ("doffer/api.ErrDepth", laid_doffer_api_ErrDepth), ("doffer/api.ErrLimit", laid_doffer_api_ErrLimit)], narrowed := true }
def SizesOftenUptoSaid : Prop := sizesOftenUptoRow.holds Tryd.pinned (OpenSpec.upto sizesOftenSpec)

/-- 'dofferlaw10.MatchLaws', WHERE WHAT IT READS IS OF BULK AT MOST 1048576: true; the input reads as it did. -/
def matchLawsUptoRow : OpenClaim := { program := "ytoeeddfinmfnoaadoor", sum := "fafc1a2bdafd4f827a42a1e4da003ccd7aec2e0f8a1a7b2536599300adfd69d5", func := "doffer/dofferlaw10.MatchLaws", spec := "matchLaws", inPlace := ["internal/bytealg.IndexByteString"], unfollowed := true, recurses := true, named := ["doffer/api.ErrForm", "doffer/api.ErrDepth", "doffer/api.ErrLimit", "doffer/api.ErrShort", "doffer/api.ErrRange", "doffer/api.ErrName", "math/bits.deBruijn64tab"], loops := true, apart := false, laid := [("math/bits.deBruijn64tab", laid_math_bits_deBruijn64tab), ("doffer/api.ErrRange", laid_doffer_api_ErrRange), ("doffer/api.ErrShort", laid_doffer_api_ErrShort), ("doffer/api.ErrForm", laid_doffer_api_ErrForm), ("doffer/api.ErrName", laid_doffer_api_ErrName), ("doffer/api.ErrDepth", laid_doffer_api_ErrDepth), ("doffer/api.ErrLimit", laid_doffer_api_ErrLimit)], narrowed := true }
def MatchLawsUptoSaid : Prop := matchLawsUptoRow.holds Tryd.pinned (OpenSpec.upto matchLawsSpec)

/-- 'dofferlaw10.MatchEmpty', WHERE WHAT IT READS IS OF BULK AT MOST 1048576: true; the input reads as it did. -/
def matchEmptyUptoRow : OpenClaim := { program := "ytoeeddfinmfnoaadoor", sum := "fafc1a2bdafd4f827a42a1e4da003ccd7aec2e0f8a1a7b2536599300adfd69d5", func := "doffer/dofferlaw10.MatchEmpty", spec := "matchEmpty", inPlace := ["internal/bytealg.IndexByteString"], unfollowed := true, recurses := true, named := ["doffer/api.ErrForm", "doffer/api.ErrDepth", "doffer/api.ErrLimit", "doffer/api.ErrShort", "doffer/api.ErrRange", "doffer/api.ErrName", "math/bits.deBruijn64tab"], loops := true, apart := false, laid := [("math/bits.deBruijn64tab", laid_math_bits_deBruijn64tab), ("doffer/api.ErrRange", laid_doffer_api_ErrRange), ("doffer/api.ErrShort", laid_doffer_api_ErrShort), ("doffer/api.ErrForm", laid_doffer_api_ErrForm), ("doffer/api.ErrName", laid_doffer_api_ErrName), ("doffer/api.ErrDepth", laid_doffer_api_ErrDepth), ("doffer/api.ErrLimit", laid_doffer_api_ErrLimit)], narrowed := true }
def MatchEmptyUptoSaid : Prop := matchEmptyUptoRow.holds Tryd.pinned (OpenSpec.upto matchEmptySpec)

/-- 'dofferlaw08.RegexBack', WHERE WHAT IT READS IS OF BULK AT MOST 1048576: true; the input reads as it did. -/
def regexBackUptoRow : OpenClaim := { program := "ytoeeddfinmfnoaadoor", sum := "fafc1a2bdafd4f827a42a1e4da003ccd7aec2e0f8a1a7b2536599300adfd69d5", func := "doffer/dofferlaw08.RegexBack", spec := "regexBack", inPlace := ["internal/bytealg.IndexByteString", "internal/abi.NoEscape", "internal/bytealg.MakeNoZero"], unfollowed := true, recurses := true, named := ["doffer/api.ErrForm", "doffer/api.ErrDepth", "doffer/api.ErrLimit", "doffer/api.ErrShort", "doffer/api.ErrRange", "doffer/api.ErrName", "math/bits.deBruijn64tab"], loops := true, apart := false, laid := [("math/bits.deBruijn64tab", laid_math_bits_deBruijn64tab), ("doffer/api.ErrRange", laid_doffer_api_ErrRange), ("doffer/api.ErrShort", laid_doffer_api_ErrShort), ("doffer/api.ErrForm", laid_doffer_api_ErrForm), ("doffer/api.ErrName", laid_doffer_api_ErrName), ("doffer/api.ErrDepth", laid_doffer_api_ErrDepth), ("doffer/api.ErrLimit", laid_doffer_api_ErrLimit)], narrowed := true }
def RegexBackUptoSaid : Prop := regexBackUptoRow.holds Tryd.pinned (OpenSpec.upto regexBackSpec)

end Rows
end Go.Proofs.YtoeeddfinmfnoaaDoor
