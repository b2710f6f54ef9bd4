/-
  DERIVED. GIVEN WITH THE SEED: THE PROGRAM's TIES (one call each: nine closed facts by the kernel) AND EACH ROW's TIE, after the 31st guide's Derived/Test/Toyas{Tie, Card}.lean. No idea stands in it: it is a product of the set-up. Laid BY PROGRAM, IN A SANDBOX (cutbox-door.mjs). By AI agents, Wed Nov 11 2026. No macro, syntax, notation, axiom, sorry.
-/
import Derived.Test.YtdcgpdgokaephaaGreatDoorRows
import Derived.LaidByTextLater
import Derived.SevenTiedAt
import Derived.LaidSub
import Derived.LaidOnce
namespace Go.Proofs.YtdcgpdgokaephaaGreatDoor
open Go
set_option maxRecDepth 100000
theorem seatTie1 : Tryz.prog.laidByTextLater [("errors.errorType", Rows.laid_errors_errorType), ("jotter/octet.table", Rows.laid_jotter_octet_table), ("jotter/ot.rules", Rows.laid_jotter_ot_rules), ("jotter/wire.size", Rows.laid_jotter_wire_size), ("jotter/wire.shapes", Rows.laid_jotter_wire_shapes), ("jotter/wire.itemShapes", Rows.laid_jotter_wire_itemShapes), ("jotter/wire.itemFields", Rows.laid_jotter_wire_itemFields)] [.handle, .data, .funcs, .data, .widerDeep, .widerDeep, .data] true :=
  Program.laidByTextLater_by_one 57 8 17 (by kernel_rfl) (by kernel_rfl) (by kernel_rfl) (by kernel_rfl) (by kernel_rfl) (by kernel_rfl) (fun _ _ => by kernel_rfl)
theorem noOwnUnsafe : Tryz.pinned.checked.prog.headLifts.contains "ownunsafe" = false := by kernel_rfl
theorem tie : Tryz.prog.laidByTextLater [("errors.errorType", Rows.laid_errors_errorType), ("jotter/octet.table", Rows.laid_jotter_octet_table), ("jotter/ot.rules", Rows.laid_jotter_ot_rules), ("jotter/wire.size", Rows.laid_jotter_wire_size), ("jotter/wire.shapes", Rows.laid_jotter_wire_shapes), ("jotter/wire.itemShapes", Rows.laid_jotter_wire_itemShapes), ("jotter/wire.itemFields", Rows.laid_jotter_wire_itemFields)] [.handle, .data, .funcs, .data, .widerDeep, .widerDeep, .data] true :=
  Program.laidByTextLater.sub seatTie1 ["errors.errorType", "jotter/octet.table", "jotter/ot.rules", "jotter/wire.size", "jotter/wire.shapes", "jotter/wire.itemShapes", "jotter/wire.itemFields"] (by kernel_rfl) (by kernel_rfl)
theorem revisionTexts_row_tie : Rows.revisionTextsRow.laidByTextAt .later Tryz.pinned [.handle, .data, .funcs, .data, .widerDeep, .widerDeep, .data] true :=
  OpenClaim.laidByTextAt_later rfl rfl tie noOwnUnsafe
theorem revisionCrash_row_tie : Rows.revisionCrashRow.laidByTextAt .later Tryz.pinned [.handle, .data, .funcs, .data, .widerDeep, .widerDeep, .data] true :=
  OpenClaim.laidByTextAt_later rfl rfl tie noOwnUnsafe
theorem revisionBlame_row_tie : Rows.revisionBlameRow.laidByTextAt .later Tryz.pinned [.handle, .data, .funcs, .data, .widerDeep, .widerDeep, .data] true :=
  OpenClaim.laidByTextAt_later rfl rfl tie noOwnUnsafe
theorem revisionLife_row_tie : Rows.revisionLifeRow.laidByTextAt .later Tryz.pinned [.handle, .data, .funcs, .data, .widerDeep, .widerDeep, .data] true :=
  OpenClaim.laidByTextAt_later rfl rfl tie noOwnUnsafe
theorem revisionTally_row_tie : Rows.revisionTallyRow.laidByTextAt .later Tryz.pinned [.handle, .data, .funcs, .data, .widerDeep, .widerDeep, .data] true :=
  OpenClaim.laidByTextAt_later rfl rfl tie noOwnUnsafe
theorem revisionChanges_row_tie : Rows.revisionChangesRow.laidByTextAt .later Tryz.pinned [.handle, .data, .funcs, .data, .widerDeep, .widerDeep, .data] true :=
  OpenClaim.laidByTextAt_later rfl rfl tie noOwnUnsafe
theorem revisionOwn_row_tie : Rows.revisionOwnRow.laidByTextAt .later Tryz.pinned [.handle, .data, .funcs, .data, .widerDeep, .widerDeep, .data] true :=
  OpenClaim.laidByTextAt_later rfl rfl tie noOwnUnsafe
theorem revisionTextsUpto_row_tie : Rows.revisionTextsUptoRow.laidByTextAt .later Tryz.pinned [.handle, .data, .funcs, .data, .widerDeep, .widerDeep, .data] true :=
  OpenClaim.laidByTextAt_later rfl rfl tie noOwnUnsafe
theorem revisionCrashUpto_row_tie : Rows.revisionCrashUptoRow.laidByTextAt .later Tryz.pinned [.handle, .data, .funcs, .data, .widerDeep, .widerDeep, .data] true :=
  OpenClaim.laidByTextAt_later rfl rfl tie noOwnUnsafe
theorem revisionBlameUpto_row_tie : Rows.revisionBlameUptoRow.laidByTextAt .later Tryz.pinned [.handle, .data, .funcs, .data, .widerDeep, .widerDeep, .data] true :=
  OpenClaim.laidByTextAt_later rfl rfl tie noOwnUnsafe
theorem revisionLifeUpto_row_tie : Rows.revisionLifeUptoRow.laidByTextAt .later Tryz.pinned [.handle, .data, .funcs, .data, .widerDeep, .widerDeep, .data] true :=
  OpenClaim.laidByTextAt_later rfl rfl tie noOwnUnsafe
theorem revisionTallyUpto_row_tie : Rows.revisionTallyUptoRow.laidByTextAt .later Tryz.pinned [.handle, .data, .funcs, .data, .widerDeep, .widerDeep, .data] true :=
  OpenClaim.laidByTextAt_later rfl rfl tie noOwnUnsafe
theorem revisionChangesUpto_row_tie : Rows.revisionChangesUptoRow.laidByTextAt .later Tryz.pinned [.handle, .data, .funcs, .data, .widerDeep, .widerDeep, .data] true :=
  OpenClaim.laidByTextAt_later rfl rfl tie noOwnUnsafe
theorem revisionOwnUpto_row_tie : Rows.revisionOwnUptoRow.laidByTextAt .later Tryz.pinned [.handle, .data, .funcs, .data, .widerDeep, .widerDeep, .data] true :=
  OpenClaim.laidByTextAt_later rfl rfl tie noOwnUnsafe
end Go.Proofs.YtdcgpdgokaephaaGreatDoor
