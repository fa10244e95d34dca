/-
  DERIVED. GIVEN WITH THE SEED: THE PROGRAM's TIES (one call each: nine closed facts by the kernel) AND EACH ROW's TIE, after the 31st guide's Derived/Test/Toyas{Tie, Card}.lean. No idea stands in it: it is a product of the set-up. Laid BY PROGRAM, IN A SANDBOX (cutbox-door.mjs). By AI agents, Wed Nov 11 2026. No macro, syntax, notation, axiom, sorry.
-/
import Derived.Test.YtpahmbimajicgaaGreatDoorRows
import Derived.LaidByTextLater
import Derived.SevenTiedAt
import Derived.LaidSub
import Derived.LaidOnce
namespace Go.Proofs.YtpahmbimajicgaaGreatDoor
open Go
set_option maxRecDepth 100000
theorem seatTie1 : Tryz.prog.laidByTextLater [("galley/galleyref09.none", Rows.laid_galley_galleyref09_none), ("galley/galleyref12.none", Rows.laid_galley_galleyref12_none), ("galley/trail.none", Rows.laid_galley_trail_none)] [.data, .data, .data] true :=
  Program.laidByTextLater_by_one 24 8 3 (by kernel_rfl) (by kernel_rfl) (by kernel_rfl) (by kernel_rfl) (by kernel_rfl) (by kernel_rfl) (fun _ _ => by kernel_rfl)
theorem noOwnUnsafe : Tryz.pinned.checked.prog.headLifts.contains "ownunsafe" = false := by kernel_rfl
theorem tie : Tryz.prog.laidByTextLater [("galley/trail.none", Rows.laid_galley_trail_none)] [.data] true :=
  Program.laidByTextLater.sub seatTie1 ["galley/trail.none"] (by kernel_rfl) (by kernel_rfl)
theorem walkNames_row_tie : Rows.walkNamesRow.laidByTextAt .later Tryz.pinned [.data] true :=
  OpenClaim.laidByTextAt_later rfl rfl tie noOwnUnsafe
theorem mutateSound_row_tie : Rows.mutateSoundRow.laidByTextAt .later Tryz.pinned [.data] true :=
  OpenClaim.laidByTextAt_later rfl rfl tie noOwnUnsafe
theorem tie2 : Tryz.prog.laidByTextLater [("galley/galleyref09.none", Rows.laid_galley_galleyref09_none), ("galley/trail.none", Rows.laid_galley_trail_none)] [.data, .data] true :=
  Program.laidByTextLater.sub seatTie1 ["galley/galleyref09.none", "galley/trail.none"] (by kernel_rfl) (by kernel_rfl)
theorem mutatePlays_row_tie : Rows.mutatePlaysRow.laidByTextAt .later Tryz.pinned [.data, .data] true :=
  OpenClaim.laidByTextAt_later rfl rfl tie2 noOwnUnsafe
theorem walkWhole_row_tie : Rows.walkWholeRow.laidByTextAt .later Tryz.pinned [.data, .data] true :=
  OpenClaim.laidByTextAt_later rfl rfl tie2 noOwnUnsafe
theorem walkBack_row_tie : Rows.walkBackRow.laidByTextAt .later Tryz.pinned [.data, .data] true :=
  OpenClaim.laidByTextAt_later rfl rfl tie2 noOwnUnsafe
theorem tie3 : Tryz.prog.laidByTextLater [("galley/galleyref09.none", Rows.laid_galley_galleyref09_none), ("galley/galleyref12.none", Rows.laid_galley_galleyref12_none), ("galley/trail.none", Rows.laid_galley_trail_none)] [.data, .data, .data] true :=
  Program.laidByTextLater.sub seatTie1 ["galley/galleyref09.none", "galley/galleyref12.none", "galley/trail.none"] (by kernel_rfl) (by kernel_rfl)
theorem walkPlays_row_tie : Rows.walkPlaysRow.laidByTextAt .later Tryz.pinned [.data, .data, .data] true :=
  OpenClaim.laidByTextAt_later rfl rfl tie3 noOwnUnsafe
theorem walkNamesUpto_row_tie : Rows.walkNamesUptoRow.laidByTextAt .later Tryz.pinned [.data] true :=
  OpenClaim.laidByTextAt_later rfl rfl tie noOwnUnsafe
theorem mutateSoundUpto_row_tie : Rows.mutateSoundUptoRow.laidByTextAt .later Tryz.pinned [.data] true :=
  OpenClaim.laidByTextAt_later rfl rfl tie noOwnUnsafe
theorem mutatePlaysUpto_row_tie : Rows.mutatePlaysUptoRow.laidByTextAt .later Tryz.pinned [.data, .data] true :=
  OpenClaim.laidByTextAt_later rfl rfl tie2 noOwnUnsafe
theorem walkWholeUpto_row_tie : Rows.walkWholeUptoRow.laidByTextAt .later Tryz.pinned [.data, .data] true :=
  OpenClaim.laidByTextAt_later rfl rfl tie2 noOwnUnsafe
theorem walkBackUpto_row_tie : Rows.walkBackUptoRow.laidByTextAt .later Tryz.pinned [.data, .data] true :=
  OpenClaim.laidByTextAt_later rfl rfl tie2 noOwnUnsafe
theorem walkPlaysUpto_row_tie : Rows.walkPlaysUptoRow.laidByTextAt .later Tryz.pinned [.data, .data, .data] true :=
  OpenClaim.laidByTextAt_later rfl rfl tie3 noOwnUnsafe
end Go.Proofs.YtpahmbimajicgaaGreatDoor
