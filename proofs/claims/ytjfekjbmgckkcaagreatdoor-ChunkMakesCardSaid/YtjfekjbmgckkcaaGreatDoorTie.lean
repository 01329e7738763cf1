/-
  DERIVED. GIVEN WITH THE SEED: THE PROGRAM's TIES (one call each: nine closed facts by the kernel) AND EACH ROW's TIE, after the 31st guide's Derived/Test/Toyas{Tie, Card}.lean. No idea stands in it: it is a product of the set-up. Laid BY PROGRAM, IN A SANDBOX (cutbox-door.mjs). By AI agents, Wed Nov 11 2026. No macro, syntax, notation, axiom, sorry.
-/
import Derived.Test.YtjfekjbmgckkcaaGreatDoorRows
import Derived.LaidByTextLater
import Derived.SevenTiedAt
import Derived.LaidSub
import Derived.LaidOnce
namespace Go.Proofs.YtjfekjbmgckkcaaGreatDoor
open Go
set_option maxRecDepth 100000
theorem seatTie1 : Tryz.prog.laidByTextLater [("math/bits.deBruijn64tab", Rows.laid_math_bits_deBruijn64tab), ("errors.errorType", Rows.laid_errors_errorType), ("tidepole/varbit.behinds", Rows.laid_tidepole_varbit_behinds)] [.data, .handle, .data] true :=
  Program.laidByTextLater_by_one 26 8 65 (by kernel_rfl) (by kernel_rfl) (by kernel_rfl) (by kernel_rfl) (by kernel_rfl) (by kernel_rfl) (fun _ _ => by kernel_rfl)
theorem noOwnUnsafe : Tryz.pinned.checked.prog.headLifts.contains "ownunsafe" = false := by kernel_rfl
theorem tie : Tryz.prog.laidByTextLater [("errors.errorType", Rows.laid_errors_errorType), ("tidepole/varbit.behinds", Rows.laid_tidepole_varbit_behinds)] [.handle, .data] true :=
  Program.laidByTextLater.sub seatTie1 ["errors.errorType", "tidepole/varbit.behinds"] (by kernel_rfl) (by kernel_rfl)
theorem headPuts_row_tie : Rows.headPutsRow.laidByTextAt .later Tryz.pinned [.handle, .data] true :=
  OpenClaim.laidByTextAt_later rfl rfl tie noOwnUnsafe
theorem headReads_row_tie : Rows.headReadsRow.laidByTextAt .later Tryz.pinned [.handle, .data] true :=
  OpenClaim.laidByTextAt_later rfl rfl tie noOwnUnsafe
theorem tie2 : Tryz.prog.laidByTextLater [("math/bits.deBruijn64tab", Rows.laid_math_bits_deBruijn64tab), ("errors.errorType", Rows.laid_errors_errorType), ("tidepole/varbit.behinds", Rows.laid_tidepole_varbit_behinds)] [.data, .handle, .data] true :=
  Program.laidByTextLater.sub seatTie1 ["math/bits.deBruijn64tab", "errors.errorType", "tidepole/varbit.behinds"] (by kernel_rfl) (by kernel_rfl)
theorem fchunkMakes_row_tie : Rows.fchunkMakesRow.laidByTextAt .later Tryz.pinned [.data, .handle, .data] true :=
  OpenClaim.laidByTextAt_later rfl rfl tie2 noOwnUnsafe
theorem fchunkAppends_row_tie : Rows.fchunkAppendsRow.laidByTextAt .later Tryz.pinned [.data, .handle, .data] true :=
  OpenClaim.laidByTextAt_later rfl rfl tie2 noOwnUnsafe
theorem fchunkStill_row_tie : Rows.fchunkStillRow.laidByTextAt .later Tryz.pinned [.data, .handle, .data] true :=
  OpenClaim.laidByTextAt_later rfl rfl tie2 noOwnUnsafe
theorem fchunkCopies_row_tie : Rows.fchunkCopiesRow.laidByTextAt .later Tryz.pinned [.data, .handle, .data] true :=
  OpenClaim.laidByTextAt_later rfl rfl tie2 noOwnUnsafe
theorem chunkMakes_row_tie : Rows.chunkMakesRow.laidByTextAt .later Tryz.pinned [.data, .handle, .data] true :=
  OpenClaim.laidByTextAt_later rfl rfl tie2 noOwnUnsafe
theorem chunkAppends_row_tie : Rows.chunkAppendsRow.laidByTextAt .later Tryz.pinned [.data, .handle, .data] true :=
  OpenClaim.laidByTextAt_later rfl rfl tie2 noOwnUnsafe
theorem chunkCopies_row_tie : Rows.chunkCopiesRow.laidByTextAt .later Tryz.pinned [.data, .handle, .data] true :=
  OpenClaim.laidByTextAt_later rfl rfl tie2 noOwnUnsafe
theorem chunkSteady_row_tie : Rows.chunkSteadyRow.laidByTextAt .later Tryz.pinned [.data, .handle, .data] true :=
  OpenClaim.laidByTextAt_later rfl rfl tie2 noOwnUnsafe
theorem headPutsUpto_row_tie : Rows.headPutsUptoRow.laidByTextAt .later Tryz.pinned [.handle, .data] true :=
  OpenClaim.laidByTextAt_later rfl rfl tie noOwnUnsafe
theorem headReadsUpto_row_tie : Rows.headReadsUptoRow.laidByTextAt .later Tryz.pinned [.handle, .data] true :=
  OpenClaim.laidByTextAt_later rfl rfl tie noOwnUnsafe
theorem fchunkMakesUpto_row_tie : Rows.fchunkMakesUptoRow.laidByTextAt .later Tryz.pinned [.data, .handle, .data] true :=
  OpenClaim.laidByTextAt_later rfl rfl tie2 noOwnUnsafe
theorem fchunkAppendsUpto_row_tie : Rows.fchunkAppendsUptoRow.laidByTextAt .later Tryz.pinned [.data, .handle, .data] true :=
  OpenClaim.laidByTextAt_later rfl rfl tie2 noOwnUnsafe
theorem fchunkStillUpto_row_tie : Rows.fchunkStillUptoRow.laidByTextAt .later Tryz.pinned [.data, .handle, .data] true :=
  OpenClaim.laidByTextAt_later rfl rfl tie2 noOwnUnsafe
theorem fchunkCopiesUpto_row_tie : Rows.fchunkCopiesUptoRow.laidByTextAt .later Tryz.pinned [.data, .handle, .data] true :=
  OpenClaim.laidByTextAt_later rfl rfl tie2 noOwnUnsafe
theorem chunkMakesUpto_row_tie : Rows.chunkMakesUptoRow.laidByTextAt .later Tryz.pinned [.data, .handle, .data] true :=
  OpenClaim.laidByTextAt_later rfl rfl tie2 noOwnUnsafe
theorem chunkAppendsUpto_row_tie : Rows.chunkAppendsUptoRow.laidByTextAt .later Tryz.pinned [.data, .handle, .data] true :=
  OpenClaim.laidByTextAt_later rfl rfl tie2 noOwnUnsafe
theorem chunkCopiesUpto_row_tie : Rows.chunkCopiesUptoRow.laidByTextAt .later Tryz.pinned [.data, .handle, .data] true :=
  OpenClaim.laidByTextAt_later rfl rfl tie2 noOwnUnsafe
theorem chunkSteadyUpto_row_tie : Rows.chunkSteadyUptoRow.laidByTextAt .later Tryz.pinned [.data, .handle, .data] true :=
  OpenClaim.laidByTextAt_later rfl rfl tie2 noOwnUnsafe
end Go.Proofs.YtjfekjbmgckkcaaGreatDoor
