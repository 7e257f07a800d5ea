/-
  DERIVED. GIVEN WITH THE SEED: THE PROGRAM's TIES (one call each: nine closed facts by the kernel) AND EACH ROW's TIE, after the 31st guide's Derived/Test/Toyas{Tie, Card}.lean. No idea stands in it: it is a product of the set-up. Laid BY PROGRAM, IN A SANDBOX (cutbox-door.mjs). By AI agents, Wed Nov 11 2026. No macro, syntax, notation, axiom, sorry.
-/
import Derived.Test.YtmfcabidmacdcaaDoorRows
import Derived.LaidByTextLater
import Derived.SevenTiedAt
import Derived.LaidSub
import Derived.LaidOnce
namespace Go.Proofs.YtmfcabidmacdcaaDoor
open Go
set_option maxRecDepth 100000
theorem seatTie1 : Tryd.prog.laidByTextLater [("math/bits.deBruijn64tab", Rows.laid_math_bits_deBruijn64tab), ("unicode/utf8.acceptRanges", Rows.laid_unicode_utf8_acceptRanges), ("doffer/api.ErrRange", Rows.laid_doffer_api_ErrRange), ("doffer/api.ErrShort", Rows.laid_doffer_api_ErrShort), ("doffer/api.ErrLong", Rows.laid_doffer_api_ErrLong), ("doffer/api.ErrForm", Rows.laid_doffer_api_ErrForm), ("doffer/api.ErrName", Rows.laid_doffer_api_ErrName), ("doffer/api.ErrDup", Rows.laid_doffer_api_ErrDup), ("doffer/api.ErrDepth", Rows.laid_doffer_api_ErrDepth), ("doffer/api.ErrLoop", Rows.laid_doffer_api_ErrLoop), ("doffer/api.ErrLimit", Rows.laid_doffer_api_ErrLimit), ("doffer/api.ErrSum", Rows.laid_doffer_api_ErrSum), ("doffer/api.ErrVersion", Rows.laid_doffer_api_ErrVersion), ("doffer/api.ErrIndex", Rows.laid_doffer_api_ErrIndex), ("doffer/api.ErrFull", Rows.laid_doffer_api_ErrFull), ("doffer/api.ErrCredit", Rows.laid_doffer_api_ErrCredit), ("doffer/api.ErrNone", Rows.laid_doffer_api_ErrNone), ("doffer/api.ErrState", Rows.laid_doffer_api_ErrState), ("doffer/api.ErrParked", Rows.laid_doffer_api_ErrParked), ("doffer/api.ErrTag", Rows.laid_doffer_api_ErrTag), ("doffer/crc.steps", Rows.laid_doffer_crc_steps)] [.data, .data, .sentinel, .sentinel, .sentinel, .sentinel, .sentinel, .sentinel, .sentinel, .sentinel, .sentinel, .sentinel, .sentinel, .sentinel, .sentinel, .sentinel, .sentinel, .sentinel, .sentinel, .sentinel, .data] true :=
  Program.laidByTextLater_by_one 371 8 65 (by kernel_rfl) (by kernel_rfl) (by kernel_rfl) (by kernel_rfl) (by kernel_rfl) (by kernel_rfl) (fun _ _ => by kernel_rfl)
theorem pin_laid_unicode_utf8_first : Tryd.pinned.checked.prog.pinnedFits "unicode/utf8.first" = true := by kernel_rfl
theorem noOwnUnsafe : Tryd.pinned.checked.prog.headLifts.contains "ownunsafe" = false := by kernel_rfl
theorem tie : Tryd.prog.laidByTextLater [("doffer/api.ErrRange", Rows.laid_doffer_api_ErrRange), ("doffer/api.ErrShort", Rows.laid_doffer_api_ErrShort), ("doffer/api.ErrLong", Rows.laid_doffer_api_ErrLong), ("doffer/api.ErrForm", Rows.laid_doffer_api_ErrForm), ("doffer/api.ErrName", Rows.laid_doffer_api_ErrName), ("doffer/api.ErrDup", Rows.laid_doffer_api_ErrDup), ("doffer/api.ErrDepth", Rows.laid_doffer_api_ErrDepth), ("doffer/api.ErrLoop", Rows.laid_doffer_api_ErrLoop), ("doffer/api.ErrLimit", Rows.laid_doffer_api_ErrLimit), ("doffer/api.ErrSum", Rows.laid_doffer_api_ErrSum), ("doffer/api.ErrVersion", Rows.laid_doffer_api_ErrVersion), ("doffer/api.ErrIndex", Rows.laid_doffer_api_ErrIndex), ("doffer/api.ErrFull", Rows.laid_doffer_api_ErrFull), ("doffer/api.ErrCredit", Rows.laid_doffer_api_ErrCredit), ("doffer/api.ErrNone", Rows.laid_doffer_api_ErrNone), ("doffer/api.ErrState", Rows.laid_doffer_api_ErrState), ("doffer/api.ErrParked", Rows.laid_doffer_api_ErrParked), ("doffer/api.ErrTag", Rows.laid_doffer_api_ErrTag)] [.sentinel, .sentinel, .sentinel, .sentinel, .sentinel, .sentinel, .sentinel, .sentinel, .sentinel, .sentinel, .sentinel, .sentinel, .sentinel, .sentinel, .sentinel, .sentinel, .sentinel, .sentinel] true :=
  Program.laidByTextLater.sub seatTie1 ["doffer/api.ErrRange", "doffer/api.ErrShort", "doffer/api.ErrLong", "doffer/api.ErrForm", "doffer/api.ErrName", "doffer/api.ErrDup", "doffer/api.ErrDepth", "doffer/api.ErrLoop", "doffer/api.ErrLimit", "doffer/api.ErrSum", "doffer/api.ErrVersion", "doffer/api.ErrIndex", "doffer/api.ErrFull", "doffer/api.ErrCredit", "doffer/api.ErrNone", "doffer/api.ErrState", "doffer/api.ErrParked", "doffer/api.ErrTag"] (by kernel_rfl) (by kernel_rfl)
theorem bracketsRead_row_tie : Rows.bracketsReadRow.laidByTextAt .later Tryd.pinned [.sentinel, .sentinel, .sentinel, .sentinel, .sentinel, .sentinel, .sentinel, .sentinel, .sentinel, .sentinel, .sentinel, .sentinel, .sentinel, .sentinel, .sentinel, .sentinel, .sentinel, .sentinel] true :=
  OpenClaim.laidByTextAt_later rfl rfl tie noOwnUnsafe
theorem tie2 : Tryd.prog.laidByTextLater [("math/bits.deBruijn64tab", Rows.laid_math_bits_deBruijn64tab), ("doffer/api.ErrRange", Rows.laid_doffer_api_ErrRange), ("doffer/api.ErrShort", Rows.laid_doffer_api_ErrShort), ("doffer/api.ErrForm", Rows.laid_doffer_api_ErrForm)] [.data, .sentinel, .sentinel, .sentinel] true :=
  Program.laidByTextLater.sub seatTie1 ["math/bits.deBruijn64tab", "doffer/api.ErrRange", "doffer/api.ErrShort", "doffer/api.ErrForm"] (by kernel_rfl) (by kernel_rfl)
theorem bracketsText_row_tie : Rows.bracketsTextRow.laidByTextAt .later Tryd.pinned [.data, .sentinel, .sentinel, .sentinel] true :=
  OpenClaim.laidByTextAt_later rfl rfl tie2 noOwnUnsafe
theorem bracketsItems_row_tie : Rows.bracketsItemsRow.laidByTextAt .later Tryd.pinned [.data, .sentinel, .sentinel, .sentinel] true :=
  OpenClaim.laidByTextAt_later rfl rfl tie2 noOwnUnsafe
theorem fits3 : Tryd.pinned.checked.prog.listedFits [("unicode/utf8.acceptRanges", Rows.laid_unicode_utf8_acceptRanges), ("doffer/api.ErrShort", Rows.laid_doffer_api_ErrShort), ("doffer/api.ErrLong", Rows.laid_doffer_api_ErrLong), ("doffer/api.ErrForm", Rows.laid_doffer_api_ErrForm), ("doffer/api.ErrName", Rows.laid_doffer_api_ErrName), ("unicode/utf8.first", Rows.laid_unicode_utf8_first)] = true := by
  unfold Program.listedFits
  rw [noOwnUnsafe]
  kernel_rfl
theorem tie3 : Tryd.prog.laidByTextLater [("unicode/utf8.acceptRanges", Rows.laid_unicode_utf8_acceptRanges), ("doffer/api.ErrShort", Rows.laid_doffer_api_ErrShort), ("doffer/api.ErrLong", Rows.laid_doffer_api_ErrLong), ("doffer/api.ErrForm", Rows.laid_doffer_api_ErrForm), ("doffer/api.ErrName", Rows.laid_doffer_api_ErrName)] [.data, .sentinel, .sentinel, .sentinel, .sentinel] true :=
  Program.laidByTextLater.sub seatTie1 ["unicode/utf8.acceptRanges", "doffer/api.ErrShort", "doffer/api.ErrLong", "doffer/api.ErrForm", "doffer/api.ErrName"] (by kernel_rfl) (by kernel_rfl)
theorem actionsWords_row_tie : Rows.actionsWordsRow.laidByTextAt .later Tryd.pinned [.data, .sentinel, .sentinel, .sentinel, .sentinel, .pinned] true :=
  OpenClaim.laidByTextAt_pinned rfl rfl tie3 rfl rfl rfl rfl (fun y hy _e => by
    simp only [Rows.actionsWordsRow, List.zip_cons_cons, List.zip_nil_right, List.mem_cons, List.mem_nil_iff, or_false] at hy
    rcases hy with rfl | rfl | rfl | rfl | rfl | rfl
    · cases _e
    · cases _e
    · cases _e
    · cases _e
    · cases _e
    · exact ⟨pin_laid_unicode_utf8_first, by kernel_rfl⟩) fits3
theorem fits4 : Tryd.pinned.checked.prog.listedFits [("unicode/utf8.acceptRanges", Rows.laid_unicode_utf8_acceptRanges), ("doffer/api.ErrRange", Rows.laid_doffer_api_ErrRange), ("doffer/api.ErrShort", Rows.laid_doffer_api_ErrShort), ("doffer/api.ErrLong", Rows.laid_doffer_api_ErrLong), ("doffer/api.ErrForm", Rows.laid_doffer_api_ErrForm), ("doffer/api.ErrName", Rows.laid_doffer_api_ErrName), ("doffer/api.ErrDup", Rows.laid_doffer_api_ErrDup), ("doffer/api.ErrDepth", Rows.laid_doffer_api_ErrDepth), ("doffer/api.ErrLoop", Rows.laid_doffer_api_ErrLoop), ("doffer/api.ErrLimit", Rows.laid_doffer_api_ErrLimit), ("doffer/api.ErrSum", Rows.laid_doffer_api_ErrSum), ("doffer/api.ErrVersion", Rows.laid_doffer_api_ErrVersion), ("doffer/api.ErrIndex", Rows.laid_doffer_api_ErrIndex), ("doffer/api.ErrFull", Rows.laid_doffer_api_ErrFull), ("doffer/api.ErrCredit", Rows.laid_doffer_api_ErrCredit), ("doffer/api.ErrNone", Rows.laid_doffer_api_ErrNone), ("doffer/api.ErrState", Rows.laid_doffer_api_ErrState), ("doffer/api.ErrParked", Rows.laid_doffer_api_ErrParked), ("doffer/api.ErrTag", Rows.laid_doffer_api_ErrTag), ("unicode/utf8.first", Rows.laid_unicode_utf8_first)] = true := by
  unfold Program.listedFits
  rw [noOwnUnsafe]
  kernel_rfl
theorem tie4 : Tryd.prog.laidByTextLater [("unicode/utf8.acceptRanges", Rows.laid_unicode_utf8_acceptRanges), ("doffer/api.ErrRange", Rows.laid_doffer_api_ErrRange), ("doffer/api.ErrShort", Rows.laid_doffer_api_ErrShort), ("doffer/api.ErrLong", Rows.laid_doffer_api_ErrLong), ("doffer/api.ErrForm", Rows.laid_doffer_api_ErrForm), ("doffer/api.ErrName", Rows.laid_doffer_api_ErrName), ("doffer/api.ErrDup", Rows.laid_doffer_api_ErrDup), ("doffer/api.ErrDepth", Rows.laid_doffer_api_ErrDepth), ("doffer/api.ErrLoop", Rows.laid_doffer_api_ErrLoop), ("doffer/api.ErrLimit", Rows.laid_doffer_api_ErrLimit), ("doffer/api.ErrSum", Rows.laid_doffer_api_ErrSum), ("doffer/api.ErrVersion", Rows.laid_doffer_api_ErrVersion), ("doffer/api.ErrIndex", Rows.laid_doffer_api_ErrIndex), ("doffer/api.ErrFull", Rows.laid_doffer_api_ErrFull), ("doffer/api.ErrCredit", Rows.laid_doffer_api_ErrCredit), ("doffer/api.ErrNone", Rows.laid_doffer_api_ErrNone), ("doffer/api.ErrState", Rows.laid_doffer_api_ErrState), ("doffer/api.ErrParked", Rows.laid_doffer_api_ErrParked), ("doffer/api.ErrTag", Rows.laid_doffer_api_ErrTag)] [.data, .sentinel, .sentinel, .sentinel, .sentinel, .sentinel, .sentinel, .sentinel, .sentinel, .sentinel, .sentinel, .sentinel, .sentinel, .sentinel, .sentinel, .sentinel, .sentinel, .sentinel, .sentinel] true :=
  Program.laidByTextLater.sub seatTie1 ["unicode/utf8.acceptRanges", "doffer/api.ErrRange", "doffer/api.ErrShort", "doffer/api.ErrLong", "doffer/api.ErrForm", "doffer/api.ErrName", "doffer/api.ErrDup", "doffer/api.ErrDepth", "doffer/api.ErrLoop", "doffer/api.ErrLimit", "doffer/api.ErrSum", "doffer/api.ErrVersion", "doffer/api.ErrIndex", "doffer/api.ErrFull", "doffer/api.ErrCredit", "doffer/api.ErrNone", "doffer/api.ErrState", "doffer/api.ErrParked", "doffer/api.ErrTag"] (by kernel_rfl) (by kernel_rfl)
theorem actionsText_row_tie : Rows.actionsTextRow.laidByTextAt .later Tryd.pinned [.data, .sentinel, .sentinel, .sentinel, .sentinel, .sentinel, .sentinel, .sentinel, .sentinel, .sentinel, .sentinel, .sentinel, .sentinel, .sentinel, .sentinel, .sentinel, .sentinel, .sentinel, .sentinel, .pinned] true :=
  OpenClaim.laidByTextAt_pinned rfl rfl tie4 rfl rfl rfl rfl (fun y hy _e => by
    simp only [Rows.actionsTextRow, List.zip_cons_cons, List.zip_nil_right, List.mem_cons, List.mem_nil_iff, or_false] at hy
    rcases hy with rfl | rfl | rfl | rfl | rfl | rfl | rfl | rfl | rfl | rfl | rfl | rfl | rfl | rfl | rfl | rfl | rfl | rfl | rfl | rfl
    · cases _e
    · cases _e
    · cases _e
    · cases _e
    · cases _e
    · cases _e
    · cases _e
    · cases _e
    · cases _e
    · cases _e
    · cases _e
    · cases _e
    · cases _e
    · cases _e
    · cases _e
    · cases _e
    · cases _e
    · cases _e
    · cases _e
    · exact ⟨pin_laid_unicode_utf8_first, by kernel_rfl⟩) fits4
theorem actionsParse_row_tie : Rows.actionsParseRow.laidByTextAt .later Tryd.pinned [.data, .sentinel, .sentinel, .sentinel, .sentinel, .sentinel, .sentinel, .sentinel, .sentinel, .sentinel, .sentinel, .sentinel, .sentinel, .sentinel, .sentinel, .sentinel, .sentinel, .sentinel, .sentinel, .pinned] true :=
  OpenClaim.laidByTextAt_pinned rfl rfl tie4 rfl rfl rfl rfl (fun y hy _e => by
    simp only [Rows.actionsParseRow, List.zip_cons_cons, List.zip_nil_right, List.mem_cons, List.mem_nil_iff, or_false] at hy
    rcases hy with rfl | rfl | rfl | rfl | rfl | rfl | rfl | rfl | rfl | rfl | rfl | rfl | rfl | rfl | rfl | rfl | rfl | rfl | rfl | rfl
    · cases _e
    · cases _e
    · cases _e
    · cases _e
    · cases _e
    · cases _e
    · cases _e
    · cases _e
    · cases _e
    · cases _e
    · cases _e
    · cases _e
    · cases _e
    · cases _e
    · cases _e
    · cases _e
    · cases _e
    · cases _e
    · cases _e
    · exact ⟨pin_laid_unicode_utf8_first, by kernel_rfl⟩) fits4
theorem tie5 : Tryd.prog.laidByTextLater [("doffer/api.ErrRange", Rows.laid_doffer_api_ErrRange), ("doffer/api.ErrShort", Rows.laid_doffer_api_ErrShort), ("doffer/api.ErrLong", Rows.laid_doffer_api_ErrLong), ("doffer/api.ErrForm", Rows.laid_doffer_api_ErrForm), ("doffer/api.ErrName", Rows.laid_doffer_api_ErrName), ("doffer/api.ErrDup", Rows.laid_doffer_api_ErrDup), ("doffer/api.ErrDepth", Rows.laid_doffer_api_ErrDepth), ("doffer/api.ErrLoop", Rows.laid_doffer_api_ErrLoop), ("doffer/api.ErrLimit", Rows.laid_doffer_api_ErrLimit), ("doffer/api.ErrSum", Rows.laid_doffer_api_ErrSum), ("doffer/api.ErrVersion", Rows.laid_doffer_api_ErrVersion), ("doffer/api.ErrIndex", Rows.laid_doffer_api_ErrIndex), ("doffer/api.ErrFull", Rows.laid_doffer_api_ErrFull), ("doffer/api.ErrCredit", Rows.laid_doffer_api_ErrCredit), ("doffer/api.ErrNone", Rows.laid_doffer_api_ErrNone), ("doffer/api.ErrState", Rows.laid_doffer_api_ErrState), ("doffer/api.ErrParked", Rows.laid_doffer_api_ErrParked), ("doffer/api.ErrTag", Rows.laid_doffer_api_ErrTag), ("doffer/crc.steps", Rows.laid_doffer_crc_steps)] [.sentinel, .sentinel, .sentinel, .sentinel, .sentinel, .sentinel, .sentinel, .sentinel, .sentinel, .sentinel, .sentinel, .sentinel, .sentinel, .sentinel, .sentinel, .sentinel, .sentinel, .sentinel, .data] true :=
  Program.laidByTextLater.sub seatTie1 ["doffer/api.ErrRange", "doffer/api.ErrShort", "doffer/api.ErrLong", "doffer/api.ErrForm", "doffer/api.ErrName", "doffer/api.ErrDup", "doffer/api.ErrDepth", "doffer/api.ErrLoop", "doffer/api.ErrLimit", "doffer/api.ErrSum", "doffer/api.ErrVersion", "doffer/api.ErrIndex", "doffer/api.ErrFull", "doffer/api.ErrCredit", "doffer/api.ErrNone", "doffer/api.ErrState", "doffer/api.ErrParked", "doffer/api.ErrTag", "doffer/crc.steps"] (by kernel_rfl) (by kernel_rfl)
theorem codedDecode_row_tie : Rows.codedDecodeRow.laidByTextAt .later Tryd.pinned [.sentinel, .sentinel, .sentinel, .sentinel, .sentinel, .sentinel, .sentinel, .sentinel, .sentinel, .sentinel, .sentinel, .sentinel, .sentinel, .sentinel, .sentinel, .sentinel, .sentinel, .sentinel, .data] true :=
  OpenClaim.laidByTextAt_later rfl rfl tie5 noOwnUnsafe
theorem codedTurned_row_tie : Rows.codedTurnedRow.laidByTextAt .later Tryd.pinned [.sentinel, .sentinel, .sentinel, .sentinel, .sentinel, .sentinel, .sentinel, .sentinel, .sentinel, .sentinel, .sentinel, .sentinel, .sentinel, .sentinel, .sentinel, .sentinel, .sentinel, .sentinel, .data] true :=
  OpenClaim.laidByTextAt_later rfl rfl tie5 noOwnUnsafe
theorem codedTables_row_tie : Rows.codedTablesRow.laidByTextAt .later Tryd.pinned [.sentinel, .sentinel, .sentinel, .sentinel, .sentinel, .sentinel, .sentinel, .sentinel, .sentinel, .sentinel, .sentinel, .sentinel, .sentinel, .sentinel, .sentinel, .sentinel, .sentinel, .sentinel, .data] true :=
  OpenClaim.laidByTextAt_later rfl rfl tie5 noOwnUnsafe
theorem bracketsReadUpto_row_tie : Rows.bracketsReadUptoRow.laidByTextAt .later Tryd.pinned [.sentinel, .sentinel, .sentinel, .sentinel, .sentinel, .sentinel, .sentinel, .sentinel, .sentinel, .sentinel, .sentinel, .sentinel, .sentinel, .sentinel, .sentinel, .sentinel, .sentinel, .sentinel] true :=
  OpenClaim.laidByTextAt_later rfl rfl tie noOwnUnsafe
theorem bracketsTextUpto_row_tie : Rows.bracketsTextUptoRow.laidByTextAt .later Tryd.pinned [.data, .sentinel, .sentinel, .sentinel] true :=
  OpenClaim.laidByTextAt_later rfl rfl tie2 noOwnUnsafe
theorem bracketsItemsUpto_row_tie : Rows.bracketsItemsUptoRow.laidByTextAt .later Tryd.pinned [.data, .sentinel, .sentinel, .sentinel] true :=
  OpenClaim.laidByTextAt_later rfl rfl tie2 noOwnUnsafe
theorem actionsWordsUpto_row_tie : Rows.actionsWordsUptoRow.laidByTextAt .later Tryd.pinned [.data, .sentinel, .sentinel, .sentinel, .sentinel, .pinned] true :=
  OpenClaim.laidByTextAt_pinned rfl rfl tie3 rfl rfl rfl rfl (fun y hy _e => by
    simp only [Rows.actionsWordsUptoRow, List.zip_cons_cons, List.zip_nil_right, List.mem_cons, List.mem_nil_iff, or_false] at hy
    rcases hy with rfl | rfl | rfl | rfl | rfl | rfl
    · cases _e
    · cases _e
    · cases _e
    · cases _e
    · cases _e
    · exact ⟨pin_laid_unicode_utf8_first, by kernel_rfl⟩) fits3
theorem actionsTextUpto_row_tie : Rows.actionsTextUptoRow.laidByTextAt .later Tryd.pinned [.data, .sentinel, .sentinel, .sentinel, .sentinel, .sentinel, .sentinel, .sentinel, .sentinel, .sentinel, .sentinel, .sentinel, .sentinel, .sentinel, .sentinel, .sentinel, .sentinel, .sentinel, .sentinel, .pinned] true :=
  OpenClaim.laidByTextAt_pinned rfl rfl tie4 rfl rfl rfl rfl (fun y hy _e => by
    simp only [Rows.actionsTextUptoRow, List.zip_cons_cons, List.zip_nil_right, List.mem_cons, List.mem_nil_iff, or_false] at hy
    rcases hy with rfl | rfl | rfl | rfl | rfl | rfl | rfl | rfl | rfl | rfl | rfl | rfl | rfl | rfl | rfl | rfl | rfl | rfl | rfl | rfl
    · cases _e
    · cases _e
    · cases _e
    · cases _e
    · cases _e
    · cases _e
    · cases _e
    · cases _e
    · cases _e
    · cases _e
    · cases _e
    · cases _e
    · cases _e
    · cases _e
    · cases _e
    · cases _e
    · cases _e
    · cases _e
    · cases _e
    · exact ⟨pin_laid_unicode_utf8_first, by kernel_rfl⟩) fits4
theorem actionsParseUpto_row_tie : Rows.actionsParseUptoRow.laidByTextAt .later Tryd.pinned [.data, .sentinel, .sentinel, .sentinel, .sentinel, .sentinel, .sentinel, .sentinel, .sentinel, .sentinel, .sentinel, .sentinel, .sentinel, .sentinel, .sentinel, .sentinel, .sentinel, .sentinel, .sentinel, .pinned] true :=
  OpenClaim.laidByTextAt_pinned rfl rfl tie4 rfl rfl rfl rfl (fun y hy _e => by
    simp only [Rows.actionsParseUptoRow, List.zip_cons_cons, List.zip_nil_right, List.mem_cons, List.mem_nil_iff, or_false] at hy
    rcases hy with rfl | rfl | rfl | rfl | rfl | rfl | rfl | rfl | rfl | rfl | rfl | rfl | rfl | rfl | rfl | rfl | rfl | rfl | rfl | rfl
    · cases _e
    · cases _e
    · cases _e
    · cases _e
    · cases _e
    · cases _e
    · cases _e
    · cases _e
    · cases _e
    · cases _e
    · cases _e
    · cases _e
    · cases _e
    · cases _e
    · cases _e
    · cases _e
    · cases _e
    · cases _e
    · cases _e
    · exact ⟨pin_laid_unicode_utf8_first, by kernel_rfl⟩) fits4
theorem codedDecodeUpto_row_tie : Rows.codedDecodeUptoRow.laidByTextAt .later Tryd.pinned [.sentinel, .sentinel, .sentinel, .sentinel, .sentinel, .sentinel, .sentinel, .sentinel, .sentinel, .sentinel, .sentinel, .sentinel, .sentinel, .sentinel, .sentinel, .sentinel, .sentinel, .sentinel, .data] true :=
  OpenClaim.laidByTextAt_later rfl rfl tie5 noOwnUnsafe
theorem codedTurnedUpto_row_tie : Rows.codedTurnedUptoRow.laidByTextAt .later Tryd.pinned [.sentinel, .sentinel, .sentinel, .sentinel, .sentinel, .sentinel, .sentinel, .sentinel, .sentinel, .sentinel, .sentinel, .sentinel, .sentinel, .sentinel, .sentinel, .sentinel, .sentinel, .sentinel, .data] true :=
  OpenClaim.laidByTextAt_later rfl rfl tie5 noOwnUnsafe
theorem codedTablesUpto_row_tie : Rows.codedTablesUptoRow.laidByTextAt .later Tryd.pinned [.sentinel, .sentinel, .sentinel, .sentinel, .sentinel, .sentinel, .sentinel, .sentinel, .sentinel, .sentinel, .sentinel, .sentinel, .sentinel, .sentinel, .sentinel, .sentinel, .sentinel, .sentinel, .data] true :=
  OpenClaim.laidByTextAt_later rfl rfl tie5 noOwnUnsafe
end Go.Proofs.YtmfcabidmacdcaaDoor
