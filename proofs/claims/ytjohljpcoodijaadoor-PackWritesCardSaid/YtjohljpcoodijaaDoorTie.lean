/-
  DERIVED. GIVEN WITH THE SEED: THE PROGRAM's TIES (one call each: nine closed facts by the kernel) AND EACH ROW's TIE, after the 31st guide's Derived/Test/Toyas{Tie, Card}.lean. No idea stands in it: it is a product of the set-up. Laid BY PROGRAM, IN A SANDBOX (cutbox-door.mjs). By AI agents, Wed Nov 11 2026. No macro, syntax, notation, axiom, sorry.
-/
import Derived.Test.YtjohljpcoodijaaDoorRows
import Derived.LaidByTextLater
import Derived.SevenTiedAt
import Derived.LaidSub
import Derived.LaidOnce
namespace Go.Proofs.YtjohljpcoodijaaDoor
open Go
set_option maxRecDepth 100000
theorem seatTie1 : Tryd.prog.laidByTextLater [("doffer/api.ErrRange", Rows.laid_doffer_api_ErrRange), ("doffer/api.ErrShort", Rows.laid_doffer_api_ErrShort), ("doffer/api.ErrLong", Rows.laid_doffer_api_ErrLong), ("doffer/api.ErrForm", Rows.laid_doffer_api_ErrForm), ("doffer/api.ErrName", Rows.laid_doffer_api_ErrName), ("doffer/api.ErrDup", Rows.laid_doffer_api_ErrDup), ("doffer/api.ErrDepth", Rows.laid_doffer_api_ErrDepth), ("doffer/api.ErrLoop", Rows.laid_doffer_api_ErrLoop), ("doffer/api.ErrLimit", Rows.laid_doffer_api_ErrLimit), ("doffer/api.ErrSum", Rows.laid_doffer_api_ErrSum), ("doffer/api.ErrVersion", Rows.laid_doffer_api_ErrVersion), ("doffer/api.ErrIndex", Rows.laid_doffer_api_ErrIndex), ("doffer/api.ErrFull", Rows.laid_doffer_api_ErrFull), ("doffer/api.ErrCredit", Rows.laid_doffer_api_ErrCredit), ("doffer/api.ErrNone", Rows.laid_doffer_api_ErrNone), ("doffer/api.ErrState", Rows.laid_doffer_api_ErrState), ("doffer/api.ErrParked", Rows.laid_doffer_api_ErrParked), ("doffer/api.ErrTag", Rows.laid_doffer_api_ErrTag), ("doffer/crc.steps", Rows.laid_doffer_crc_steps)] [.sentinel, .sentinel, .sentinel, .sentinel, .sentinel, .sentinel, .sentinel, .sentinel, .sentinel, .sentinel, .sentinel, .sentinel, .sentinel, .sentinel, .sentinel, .sentinel, .sentinel, .sentinel, .data] true :=
  Program.laidByTextLater_by_one 356 8 17 (by kernel_rfl) (by kernel_rfl) (by kernel_rfl) (by kernel_rfl) (by kernel_rfl) (by kernel_rfl) (fun _ _ => by kernel_rfl)
theorem noOwnUnsafe : Tryd.pinned.checked.prog.headLifts.contains "ownunsafe" = false := by kernel_rfl
theorem tie : Tryd.prog.laidByTextLater [("doffer/crc.steps", Rows.laid_doffer_crc_steps)] [.data] true :=
  Program.laidByTextLater.sub seatTie1 ["doffer/crc.steps"] (by kernel_rfl) (by kernel_rfl)
theorem crcSum_row_tie : Rows.crcSumRow.laidByTextAt .later Tryd.pinned [.data] true :=
  OpenClaim.laidByTextAt_later rfl rfl tie noOwnUnsafe
theorem tie2 : Tryd.prog.laidByTextLater [("doffer/api.ErrRange", Rows.laid_doffer_api_ErrRange), ("doffer/api.ErrNone", Rows.laid_doffer_api_ErrNone), ("doffer/api.ErrState", Rows.laid_doffer_api_ErrState)] [.sentinel, .sentinel, .sentinel] true :=
  Program.laidByTextLater.sub seatTie1 ["doffer/api.ErrRange", "doffer/api.ErrNone", "doffer/api.ErrState"] (by kernel_rfl) (by kernel_rfl)
theorem robinFair_row_tie : Rows.robinFairRow.laidByTextAt .later Tryd.pinned [.sentinel, .sentinel, .sentinel] true :=
  OpenClaim.laidByTextAt_later rfl rfl tie2 noOwnUnsafe
theorem robinLeaves_row_tie : Rows.robinLeavesRow.laidByTextAt .later Tryd.pinned [.sentinel, .sentinel, .sentinel] true :=
  OpenClaim.laidByTextAt_later rfl rfl tie2 noOwnUnsafe
theorem tie3 : Tryd.prog.laidByTextLater [("doffer/api.ErrRange", Rows.laid_doffer_api_ErrRange), ("doffer/api.ErrShort", Rows.laid_doffer_api_ErrShort), ("doffer/api.ErrLong", Rows.laid_doffer_api_ErrLong), ("doffer/api.ErrForm", Rows.laid_doffer_api_ErrForm), ("doffer/api.ErrName", Rows.laid_doffer_api_ErrName), ("doffer/api.ErrDup", Rows.laid_doffer_api_ErrDup), ("doffer/api.ErrDepth", Rows.laid_doffer_api_ErrDepth), ("doffer/api.ErrLoop", Rows.laid_doffer_api_ErrLoop), ("doffer/api.ErrLimit", Rows.laid_doffer_api_ErrLimit), ("doffer/api.ErrSum", Rows.laid_doffer_api_ErrSum), ("doffer/api.ErrVersion", Rows.laid_doffer_api_ErrVersion), ("doffer/api.ErrIndex", Rows.laid_doffer_api_ErrIndex), ("doffer/api.ErrFull", Rows.laid_doffer_api_ErrFull), ("doffer/api.ErrCredit", Rows.laid_doffer_api_ErrCredit), ("doffer/api.ErrNone", Rows.laid_doffer_api_ErrNone), ("doffer/api.ErrState", Rows.laid_doffer_api_ErrState), ("doffer/api.ErrParked", Rows.laid_doffer_api_ErrParked), ("doffer/api.ErrTag", Rows.laid_doffer_api_ErrTag)] [.sentinel, .sentinel, .sentinel, .sentinel, .sentinel, .sentinel, .sentinel, .sentinel, .sentinel, .sentinel, .sentinel, .sentinel, .sentinel, .sentinel, .sentinel, .sentinel, .sentinel, .sentinel] true :=
  Program.laidByTextLater.sub seatTie1 ["doffer/api.ErrRange", "doffer/api.ErrShort", "doffer/api.ErrLong", "doffer/api.ErrForm", "doffer/api.ErrName", "doffer/api.ErrDup", "doffer/api.ErrDepth", "doffer/api.ErrLoop", "doffer/api.ErrLimit", "doffer/api.ErrSum", "doffer/api.ErrVersion", "doffer/api.ErrIndex", "doffer/api.ErrFull", "doffer/api.ErrCredit", "doffer/api.ErrNone", "doffer/api.ErrState", "doffer/api.ErrParked", "doffer/api.ErrTag"] (by kernel_rfl) (by kernel_rfl)
theorem ringKeeps_row_tie : Rows.ringKeepsRow.laidByTextAt .later Tryd.pinned [.sentinel, .sentinel, .sentinel, .sentinel, .sentinel, .sentinel, .sentinel, .sentinel, .sentinel, .sentinel, .sentinel, .sentinel, .sentinel, .sentinel, .sentinel, .sentinel, .sentinel, .sentinel] true :=
  OpenClaim.laidByTextAt_later rfl rfl tie3 noOwnUnsafe
theorem ringTypes_row_tie : Rows.ringTypesRow.laidByTextAt .later Tryd.pinned [.sentinel, .sentinel, .sentinel, .sentinel, .sentinel, .sentinel, .sentinel, .sentinel, .sentinel, .sentinel, .sentinel, .sentinel, .sentinel, .sentinel, .sentinel, .sentinel, .sentinel, .sentinel] true :=
  OpenClaim.laidByTextAt_later rfl rfl tie3 noOwnUnsafe
theorem ringPlays_row_tie : Rows.ringPlaysRow.laidByTextAt .later Tryd.pinned [.sentinel, .sentinel, .sentinel, .sentinel, .sentinel, .sentinel, .sentinel, .sentinel, .sentinel, .sentinel, .sentinel, .sentinel, .sentinel, .sentinel, .sentinel, .sentinel, .sentinel, .sentinel] true :=
  OpenClaim.laidByTextAt_later rfl rfl tie3 noOwnUnsafe
theorem robinTurns_row_tie : Rows.robinTurnsRow.laidByTextAt .later Tryd.pinned [.sentinel, .sentinel, .sentinel, .sentinel, .sentinel, .sentinel, .sentinel, .sentinel, .sentinel, .sentinel, .sentinel, .sentinel, .sentinel, .sentinel, .sentinel, .sentinel, .sentinel, .sentinel] true :=
  OpenClaim.laidByTextAt_later rfl rfl tie3 noOwnUnsafe
theorem robinPlays_row_tie : Rows.robinPlaysRow.laidByTextAt .later Tryd.pinned [.sentinel, .sentinel, .sentinel, .sentinel, .sentinel, .sentinel, .sentinel, .sentinel, .sentinel, .sentinel, .sentinel, .sentinel, .sentinel, .sentinel, .sentinel, .sentinel, .sentinel, .sentinel] true :=
  OpenClaim.laidByTextAt_later rfl rfl tie3 noOwnUnsafe
theorem packWrites_row_tie : Rows.packWritesRow.laidByTextAt .later Tryd.pinned [.sentinel, .sentinel, .sentinel, .sentinel, .sentinel, .sentinel, .sentinel, .sentinel, .sentinel, .sentinel, .sentinel, .sentinel, .sentinel, .sentinel, .sentinel, .sentinel, .sentinel, .sentinel] true :=
  OpenClaim.laidByTextAt_later rfl rfl tie3 noOwnUnsafe
theorem tie4 : Tryd.prog.laidByTextLater [("doffer/api.ErrRange", Rows.laid_doffer_api_ErrRange), ("doffer/api.ErrShort", Rows.laid_doffer_api_ErrShort), ("doffer/api.ErrForm", Rows.laid_doffer_api_ErrForm)] [.sentinel, .sentinel, .sentinel] true :=
  Program.laidByTextLater.sub seatTie1 ["doffer/api.ErrRange", "doffer/api.ErrShort", "doffer/api.ErrForm"] (by kernel_rfl) (by kernel_rfl)
theorem packOne_row_tie : Rows.packOneRow.laidByTextAt .later Tryd.pinned [.sentinel, .sentinel, .sentinel] true :=
  OpenClaim.laidByTextAt_later rfl rfl tie4 noOwnUnsafe
theorem tie5 : Tryd.prog.laidByTextLater [("doffer/api.ErrRange", Rows.laid_doffer_api_ErrRange), ("doffer/api.ErrShort", Rows.laid_doffer_api_ErrShort), ("doffer/api.ErrLong", Rows.laid_doffer_api_ErrLong), ("doffer/api.ErrForm", Rows.laid_doffer_api_ErrForm), ("doffer/api.ErrName", Rows.laid_doffer_api_ErrName), ("doffer/api.ErrDup", Rows.laid_doffer_api_ErrDup), ("doffer/api.ErrDepth", Rows.laid_doffer_api_ErrDepth), ("doffer/api.ErrLoop", Rows.laid_doffer_api_ErrLoop), ("doffer/api.ErrLimit", Rows.laid_doffer_api_ErrLimit), ("doffer/api.ErrSum", Rows.laid_doffer_api_ErrSum), ("doffer/api.ErrVersion", Rows.laid_doffer_api_ErrVersion), ("doffer/api.ErrIndex", Rows.laid_doffer_api_ErrIndex), ("doffer/api.ErrFull", Rows.laid_doffer_api_ErrFull), ("doffer/api.ErrCredit", Rows.laid_doffer_api_ErrCredit), ("doffer/api.ErrNone", Rows.laid_doffer_api_ErrNone), ("doffer/api.ErrState", Rows.laid_doffer_api_ErrState), ("doffer/api.ErrParked", Rows.laid_doffer_api_ErrParked), ("doffer/api.ErrTag", Rows.laid_doffer_api_ErrTag), ("doffer/crc.steps", Rows.laid_doffer_crc_steps)] [.sentinel, .sentinel, .sentinel, .sentinel, .sentinel, .sentinel, .sentinel, .sentinel, .sentinel, .sentinel, .sentinel, .sentinel, .sentinel, .sentinel, .sentinel, .sentinel, .sentinel, .sentinel, .data] true :=
  Program.laidByTextLater.sub seatTie1 ["doffer/api.ErrRange", "doffer/api.ErrShort", "doffer/api.ErrLong", "doffer/api.ErrForm", "doffer/api.ErrName", "doffer/api.ErrDup", "doffer/api.ErrDepth", "doffer/api.ErrLoop", "doffer/api.ErrLimit", "doffer/api.ErrSum", "doffer/api.ErrVersion", "doffer/api.ErrIndex", "doffer/api.ErrFull", "doffer/api.ErrCredit", "doffer/api.ErrNone", "doffer/api.ErrState", "doffer/api.ErrParked", "doffer/api.ErrTag", "doffer/crc.steps"] (by kernel_rfl) (by kernel_rfl)
theorem crcFrames_row_tie : Rows.crcFramesRow.laidByTextAt .later Tryd.pinned [.sentinel, .sentinel, .sentinel, .sentinel, .sentinel, .sentinel, .sentinel, .sentinel, .sentinel, .sentinel, .sentinel, .sentinel, .sentinel, .sentinel, .sentinel, .sentinel, .sentinel, .sentinel, .data] true :=
  OpenClaim.laidByTextAt_later rfl rfl tie5 noOwnUnsafe
theorem crcTurned_row_tie : Rows.crcTurnedRow.laidByTextAt .later Tryd.pinned [.sentinel, .sentinel, .sentinel, .sentinel, .sentinel, .sentinel, .sentinel, .sentinel, .sentinel, .sentinel, .sentinel, .sentinel, .sentinel, .sentinel, .sentinel, .sentinel, .sentinel, .sentinel, .data] true :=
  OpenClaim.laidByTextAt_later rfl rfl tie5 noOwnUnsafe
theorem crcSumUpto_row_tie : Rows.crcSumUptoRow.laidByTextAt .later Tryd.pinned [.data] true :=
  OpenClaim.laidByTextAt_later rfl rfl tie noOwnUnsafe
theorem robinFairUpto_row_tie : Rows.robinFairUptoRow.laidByTextAt .later Tryd.pinned [.sentinel, .sentinel, .sentinel] true :=
  OpenClaim.laidByTextAt_later rfl rfl tie2 noOwnUnsafe
theorem ringKeepsUpto_row_tie : Rows.ringKeepsUptoRow.laidByTextAt .later Tryd.pinned [.sentinel, .sentinel, .sentinel, .sentinel, .sentinel, .sentinel, .sentinel, .sentinel, .sentinel, .sentinel, .sentinel, .sentinel, .sentinel, .sentinel, .sentinel, .sentinel, .sentinel, .sentinel] true :=
  OpenClaim.laidByTextAt_later rfl rfl tie3 noOwnUnsafe
theorem ringTypesUpto_row_tie : Rows.ringTypesUptoRow.laidByTextAt .later Tryd.pinned [.sentinel, .sentinel, .sentinel, .sentinel, .sentinel, .sentinel, .sentinel, .sentinel, .sentinel, .sentinel, .sentinel, .sentinel, .sentinel, .sentinel, .sentinel, .sentinel, .sentinel, .sentinel] true :=
  OpenClaim.laidByTextAt_later rfl rfl tie3 noOwnUnsafe
theorem packOneUpto_row_tie : Rows.packOneUptoRow.laidByTextAt .later Tryd.pinned [.sentinel, .sentinel, .sentinel] true :=
  OpenClaim.laidByTextAt_later rfl rfl tie4 noOwnUnsafe
theorem ringPlaysUpto_row_tie : Rows.ringPlaysUptoRow.laidByTextAt .later Tryd.pinned [.sentinel, .sentinel, .sentinel, .sentinel, .sentinel, .sentinel, .sentinel, .sentinel, .sentinel, .sentinel, .sentinel, .sentinel, .sentinel, .sentinel, .sentinel, .sentinel, .sentinel, .sentinel] true :=
  OpenClaim.laidByTextAt_later rfl rfl tie3 noOwnUnsafe
theorem robinLeavesUpto_row_tie : Rows.robinLeavesUptoRow.laidByTextAt .later Tryd.pinned [.sentinel, .sentinel, .sentinel] true :=
  OpenClaim.laidByTextAt_later rfl rfl tie2 noOwnUnsafe
theorem robinTurnsUpto_row_tie : Rows.robinTurnsUptoRow.laidByTextAt .later Tryd.pinned [.sentinel, .sentinel, .sentinel, .sentinel, .sentinel, .sentinel, .sentinel, .sentinel, .sentinel, .sentinel, .sentinel, .sentinel, .sentinel, .sentinel, .sentinel, .sentinel, .sentinel, .sentinel] true :=
  OpenClaim.laidByTextAt_later rfl rfl tie3 noOwnUnsafe
theorem crcFramesUpto_row_tie : Rows.crcFramesUptoRow.laidByTextAt .later Tryd.pinned [.sentinel, .sentinel, .sentinel, .sentinel, .sentinel, .sentinel, .sentinel, .sentinel, .sentinel, .sentinel, .sentinel, .sentinel, .sentinel, .sentinel, .sentinel, .sentinel, .sentinel, .sentinel, .data] true :=
  OpenClaim.laidByTextAt_later rfl rfl tie5 noOwnUnsafe
theorem crcTurnedUpto_row_tie : Rows.crcTurnedUptoRow.laidByTextAt .later Tryd.pinned [.sentinel, .sentinel, .sentinel, .sentinel, .sentinel, .sentinel, .sentinel, .sentinel, .sentinel, .sentinel, .sentinel, .sentinel, .sentinel, .sentinel, .sentinel, .sentinel, .sentinel, .sentinel, .data] true :=
  OpenClaim.laidByTextAt_later rfl rfl tie5 noOwnUnsafe
theorem robinPlaysUpto_row_tie : Rows.robinPlaysUptoRow.laidByTextAt .later Tryd.pinned [.sentinel, .sentinel, .sentinel, .sentinel, .sentinel, .sentinel, .sentinel, .sentinel, .sentinel, .sentinel, .sentinel, .sentinel, .sentinel, .sentinel, .sentinel, .sentinel, .sentinel, .sentinel] true :=
  OpenClaim.laidByTextAt_later rfl rfl tie3 noOwnUnsafe
theorem packWritesUpto_row_tie : Rows.packWritesUptoRow.laidByTextAt .later Tryd.pinned [.sentinel, .sentinel, .sentinel, .sentinel, .sentinel, .sentinel, .sentinel, .sentinel, .sentinel, .sentinel, .sentinel, .sentinel, .sentinel, .sentinel, .sentinel, .sentinel, .sentinel, .sentinel] true :=
  OpenClaim.laidByTextAt_later rfl rfl tie3 noOwnUnsafe
end Go.Proofs.YtjohljpcoodijaaDoor
