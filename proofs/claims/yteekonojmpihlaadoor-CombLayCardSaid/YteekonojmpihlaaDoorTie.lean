/-
  DERIVED. GIVEN WITH THE SEED: THE PROGRAM's TIES (one call each: nine closed facts by the kernel) AND EACH ROW's TIE, after the 31st guide's Derived/Test/Toyas{Tie, Card}.lean. No idea stands in it: it is a product of the set-up. Laid BY PROGRAM, IN A SANDBOX (cutbox-door.mjs). By AI agents, Wed Nov 11 2026. No macro, syntax, notation, axiom, sorry.
-/
import Derived.Test.YteekonojmpihlaaDoorRows
import Derived.LaidByTextLater
import Derived.SevenTiedAt
import Derived.LaidSub
import Derived.LaidOnce
namespace Go.Proofs.YteekonojmpihlaaDoor
open Go
set_option maxRecDepth 100000
theorem seatTie1 : Tryd.prog.laidByTextLater [("math/bits.deBruijn64tab", Rows.laid_math_bits_deBruijn64tab), ("doffer/api.ErrRange", Rows.laid_doffer_api_ErrRange), ("doffer/api.ErrShort", Rows.laid_doffer_api_ErrShort), ("doffer/api.ErrLong", Rows.laid_doffer_api_ErrLong), ("doffer/api.ErrForm", Rows.laid_doffer_api_ErrForm), ("doffer/api.ErrName", Rows.laid_doffer_api_ErrName), ("doffer/api.ErrDup", Rows.laid_doffer_api_ErrDup), ("doffer/api.ErrDepth", Rows.laid_doffer_api_ErrDepth), ("doffer/api.ErrLoop", Rows.laid_doffer_api_ErrLoop), ("doffer/api.ErrLimit", Rows.laid_doffer_api_ErrLimit), ("doffer/api.ErrSum", Rows.laid_doffer_api_ErrSum), ("doffer/api.ErrVersion", Rows.laid_doffer_api_ErrVersion), ("doffer/api.ErrIndex", Rows.laid_doffer_api_ErrIndex), ("doffer/api.ErrFull", Rows.laid_doffer_api_ErrFull), ("doffer/api.ErrCredit", Rows.laid_doffer_api_ErrCredit), ("doffer/api.ErrNone", Rows.laid_doffer_api_ErrNone), ("doffer/api.ErrState", Rows.laid_doffer_api_ErrState), ("doffer/api.ErrParked", Rows.laid_doffer_api_ErrParked), ("doffer/api.ErrTag", Rows.laid_doffer_api_ErrTag)] [.data, .sentinel, .sentinel, .sentinel, .sentinel, .sentinel, .sentinel, .sentinel, .sentinel, .sentinel, .sentinel, .sentinel, .sentinel, .sentinel, .sentinel, .sentinel, .sentinel, .sentinel, .sentinel] true :=
  Program.laidByTextLater_by_one 356 8 65 (by kernel_rfl) (by kernel_rfl) (by kernel_rfl) (by kernel_rfl) (by kernel_rfl) (by kernel_rfl) (fun _ _ => by kernel_rfl)
theorem noOwnUnsafe : Tryd.pinned.checked.prog.headLifts.contains "ownunsafe" = false := by kernel_rfl
theorem tie : Tryd.prog.laidByTextLater [("doffer/api.ErrRange", Rows.laid_doffer_api_ErrRange), ("doffer/api.ErrShort", Rows.laid_doffer_api_ErrShort), ("doffer/api.ErrLong", Rows.laid_doffer_api_ErrLong), ("doffer/api.ErrForm", Rows.laid_doffer_api_ErrForm), ("doffer/api.ErrName", Rows.laid_doffer_api_ErrName), ("doffer/api.ErrDup", Rows.laid_doffer_api_ErrDup), ("doffer/api.ErrDepth", Rows.laid_doffer_api_ErrDepth), ("doffer/api.ErrLoop", Rows.laid_doffer_api_ErrLoop), ("doffer/api.ErrLimit", Rows.laid_doffer_api_ErrLimit), ("doffer/api.ErrSum", Rows.laid_doffer_api_ErrSum), ("doffer/api.ErrVersion", Rows.laid_doffer_api_ErrVersion), ("doffer/api.ErrIndex", Rows.laid_doffer_api_ErrIndex), ("doffer/api.ErrFull", Rows.laid_doffer_api_ErrFull), ("doffer/api.ErrCredit", Rows.laid_doffer_api_ErrCredit), ("doffer/api.ErrNone", Rows.laid_doffer_api_ErrNone), ("doffer/api.ErrState", Rows.laid_doffer_api_ErrState), ("doffer/api.ErrParked", Rows.laid_doffer_api_ErrParked), ("doffer/api.ErrTag", Rows.laid_doffer_api_ErrTag)] [.sentinel, .sentinel, .sentinel, .sentinel, .sentinel, .sentinel, .sentinel, .sentinel, .sentinel, .sentinel, .sentinel, .sentinel, .sentinel, .sentinel, .sentinel, .sentinel, .sentinel, .sentinel] true :=
  Program.laidByTextLater.sub seatTie1 ["doffer/api.ErrRange", "doffer/api.ErrShort", "doffer/api.ErrLong", "doffer/api.ErrForm", "doffer/api.ErrName", "doffer/api.ErrDup", "doffer/api.ErrDepth", "doffer/api.ErrLoop", "doffer/api.ErrLimit", "doffer/api.ErrSum", "doffer/api.ErrVersion", "doffer/api.ErrIndex", "doffer/api.ErrFull", "doffer/api.ErrCredit", "doffer/api.ErrNone", "doffer/api.ErrState", "doffer/api.ErrParked", "doffer/api.ErrTag"] (by kernel_rfl) (by kernel_rfl)
theorem namesBook_row_tie : Rows.namesBookRow.laidByTextAt .later Tryd.pinned [.sentinel, .sentinel, .sentinel, .sentinel, .sentinel, .sentinel, .sentinel, .sentinel, .sentinel, .sentinel, .sentinel, .sentinel, .sentinel, .sentinel, .sentinel, .sentinel, .sentinel, .sentinel] true :=
  OpenClaim.laidByTextAt_later rfl rfl tie noOwnUnsafe
theorem namesSpread_row_tie : Rows.namesSpreadRow.laidByTextAt .later Tryd.pinned [.sentinel, .sentinel, .sentinel, .sentinel, .sentinel, .sentinel, .sentinel, .sentinel, .sentinel, .sentinel, .sentinel, .sentinel, .sentinel, .sentinel, .sentinel, .sentinel, .sentinel, .sentinel] true :=
  OpenClaim.laidByTextAt_later rfl rfl tie noOwnUnsafe
theorem namesAgain_row_tie : Rows.namesAgainRow.laidByTextAt .later Tryd.pinned [.sentinel, .sentinel, .sentinel, .sentinel, .sentinel, .sentinel, .sentinel, .sentinel, .sentinel, .sentinel, .sentinel, .sentinel, .sentinel, .sentinel, .sentinel, .sentinel, .sentinel, .sentinel] true :=
  OpenClaim.laidByTextAt_later rfl rfl tie noOwnUnsafe
theorem combLay_row_tie : Rows.combLayRow.laidByTextAt .later Tryd.pinned [.sentinel, .sentinel, .sentinel, .sentinel, .sentinel, .sentinel, .sentinel, .sentinel, .sentinel, .sentinel, .sentinel, .sentinel, .sentinel, .sentinel, .sentinel, .sentinel, .sentinel, .sentinel] true :=
  OpenClaim.laidByTextAt_later rfl rfl tie noOwnUnsafe
theorem combAt_row_tie : Rows.combAtRow.laidByTextAt .later Tryd.pinned [.sentinel, .sentinel, .sentinel, .sentinel, .sentinel, .sentinel, .sentinel, .sentinel, .sentinel, .sentinel, .sentinel, .sentinel, .sentinel, .sentinel, .sentinel, .sentinel, .sentinel, .sentinel] true :=
  OpenClaim.laidByTextAt_later rfl rfl tie noOwnUnsafe
theorem tie2 : Tryd.prog.laidByTextLater [("doffer/api.ErrForm", Rows.laid_doffer_api_ErrForm)] [.sentinel] true :=
  Program.laidByTextLater.sub seatTie1 ["doffer/api.ErrForm"] (by kernel_rfl) (by kernel_rfl)
theorem combSlots_row_tie : Rows.combSlotsRow.laidByTextAt .later Tryd.pinned [.sentinel] true :=
  OpenClaim.laidByTextAt_later rfl rfl tie2 noOwnUnsafe
theorem combAgain_row_tie : Rows.combAgainRow.laidByTextAt .later Tryd.pinned [.sentinel] true :=
  OpenClaim.laidByTextAt_later rfl rfl tie2 noOwnUnsafe
theorem tie3 : Tryd.prog.laidByTextLater [("math/bits.deBruijn64tab", Rows.laid_math_bits_deBruijn64tab)] [.data] true :=
  Program.laidByTextLater.sub seatTie1 ["math/bits.deBruijn64tab"] (by kernel_rfl) (by kernel_rfl)
theorem treeNames_row_tie : Rows.treeNamesRow.laidByTextAt .later Tryd.pinned [.data] true :=
  OpenClaim.laidByTextAt_later rfl rfl tie3 noOwnUnsafe
theorem treeBounds_row_tie : Rows.treeBoundsRow.laidByTextAt .later Tryd.pinned [.data] true :=
  OpenClaim.laidByTextAt_later rfl rfl tie3 noOwnUnsafe
theorem treeTells_row_tie : Rows.treeTellsRow.laidByTextAt .later Tryd.pinned [.data] true :=
  OpenClaim.laidByTextAt_later rfl rfl tie3 noOwnUnsafe
theorem treeSame_row_tie : Rows.treeSameRow.laidByTextAt .later Tryd.pinned [.data] true :=
  OpenClaim.laidByTextAt_later rfl rfl tie3 noOwnUnsafe
theorem namesBookUpto_row_tie : Rows.namesBookUptoRow.laidByTextAt .later Tryd.pinned [.sentinel, .sentinel, .sentinel, .sentinel, .sentinel, .sentinel, .sentinel, .sentinel, .sentinel, .sentinel, .sentinel, .sentinel, .sentinel, .sentinel, .sentinel, .sentinel, .sentinel, .sentinel] true :=
  OpenClaim.laidByTextAt_later rfl rfl tie noOwnUnsafe
theorem namesSpreadUpto_row_tie : Rows.namesSpreadUptoRow.laidByTextAt .later Tryd.pinned [.sentinel, .sentinel, .sentinel, .sentinel, .sentinel, .sentinel, .sentinel, .sentinel, .sentinel, .sentinel, .sentinel, .sentinel, .sentinel, .sentinel, .sentinel, .sentinel, .sentinel, .sentinel] true :=
  OpenClaim.laidByTextAt_later rfl rfl tie noOwnUnsafe
theorem namesAgainUpto_row_tie : Rows.namesAgainUptoRow.laidByTextAt .later Tryd.pinned [.sentinel, .sentinel, .sentinel, .sentinel, .sentinel, .sentinel, .sentinel, .sentinel, .sentinel, .sentinel, .sentinel, .sentinel, .sentinel, .sentinel, .sentinel, .sentinel, .sentinel, .sentinel] true :=
  OpenClaim.laidByTextAt_later rfl rfl tie noOwnUnsafe
theorem combSlotsUpto_row_tie : Rows.combSlotsUptoRow.laidByTextAt .later Tryd.pinned [.sentinel] true :=
  OpenClaim.laidByTextAt_later rfl rfl tie2 noOwnUnsafe
theorem combAgainUpto_row_tie : Rows.combAgainUptoRow.laidByTextAt .later Tryd.pinned [.sentinel] true :=
  OpenClaim.laidByTextAt_later rfl rfl tie2 noOwnUnsafe
theorem combLayUpto_row_tie : Rows.combLayUptoRow.laidByTextAt .later Tryd.pinned [.sentinel, .sentinel, .sentinel, .sentinel, .sentinel, .sentinel, .sentinel, .sentinel, .sentinel, .sentinel, .sentinel, .sentinel, .sentinel, .sentinel, .sentinel, .sentinel, .sentinel, .sentinel] true :=
  OpenClaim.laidByTextAt_later rfl rfl tie noOwnUnsafe
theorem combAtUpto_row_tie : Rows.combAtUptoRow.laidByTextAt .later Tryd.pinned [.sentinel, .sentinel, .sentinel, .sentinel, .sentinel, .sentinel, .sentinel, .sentinel, .sentinel, .sentinel, .sentinel, .sentinel, .sentinel, .sentinel, .sentinel, .sentinel, .sentinel, .sentinel] true :=
  OpenClaim.laidByTextAt_later rfl rfl tie noOwnUnsafe
theorem treeNamesUpto_row_tie : Rows.treeNamesUptoRow.laidByTextAt .later Tryd.pinned [.data] true :=
  OpenClaim.laidByTextAt_later rfl rfl tie3 noOwnUnsafe
theorem treeBoundsUpto_row_tie : Rows.treeBoundsUptoRow.laidByTextAt .later Tryd.pinned [.data] true :=
  OpenClaim.laidByTextAt_later rfl rfl tie3 noOwnUnsafe
theorem treeTellsUpto_row_tie : Rows.treeTellsUptoRow.laidByTextAt .later Tryd.pinned [.data] true :=
  OpenClaim.laidByTextAt_later rfl rfl tie3 noOwnUnsafe
theorem treeSameUpto_row_tie : Rows.treeSameUptoRow.laidByTextAt .later Tryd.pinned [.data] true :=
  OpenClaim.laidByTextAt_later rfl rfl tie3 noOwnUnsafe
end Go.Proofs.YteekonojmpihlaaDoor
