/-
  DERIVED. GIVEN WITH THE SEED: THE PROGRAM's TIES (one call each: nine closed facts by the kernel) AND EACH ROW's TIE, after the 31st guide's Derived/Test/Toyas{Tie, Card}.lean. No idea stands in it: it is a product of the set-up. Laid BY PROGRAM, IN A SANDBOX (cutbox-door.mjs). By AI agents, Wed Nov 11 2026. No macro, syntax, notation, axiom, sorry.
-/
import Derived.Test.YtjfekjbmgckkcaaDoorRows
import Derived.LaidByTextLater
import Derived.SevenTiedAt
import Derived.LaidSub
import Derived.LaidOnce
namespace Go.Proofs.YtjfekjbmgckkcaaDoor
open Go
set_option maxRecDepth 100000
theorem seatTie1 : Tryd.prog.laidByTextLater [("errors.errorType", Rows.laid_errors_errorType), ("tidepole/varbit.behinds", Rows.laid_tidepole_varbit_behinds)] [.handle, .data] true :=
  Program.laidByTextLater_by_one 21 8 10 (by kernel_rfl) (by kernel_rfl) (by kernel_rfl) (by kernel_rfl) (by kernel_rfl) (by kernel_rfl) (fun _ _ => by kernel_rfl)
theorem noOwnUnsafe : Tryd.pinned.checked.prog.headLifts.contains "ownunsafe" = false := by kernel_rfl
theorem tie : Tryd.prog.laidByTextLater [("errors.errorType", Rows.laid_errors_errorType), ("tidepole/varbit.behinds", Rows.laid_tidepole_varbit_behinds)] [.handle, .data] true :=
  Program.laidByTextLater.sub seatTie1 ["errors.errorType", "tidepole/varbit.behinds"] (by kernel_rfl) (by kernel_rfl)
theorem headBack_row_tie : Rows.headBackRow.laidByTextAt .later Tryd.pinned [.handle, .data] true :=
  OpenClaim.laidByTextAt_later rfl rfl tie noOwnUnsafe
theorem headChecks_row_tie : Rows.headChecksRow.laidByTextAt .later Tryd.pinned [.handle, .data] true :=
  OpenClaim.laidByTextAt_later rfl rfl tie noOwnUnsafe
theorem headBackUpto_row_tie : Rows.headBackUptoRow.laidByTextAt .later Tryd.pinned [.handle, .data] true :=
  OpenClaim.laidByTextAt_later rfl rfl tie noOwnUnsafe
theorem headChecksUpto_row_tie : Rows.headChecksUptoRow.laidByTextAt .later Tryd.pinned [.handle, .data] true :=
  OpenClaim.laidByTextAt_later rfl rfl tie noOwnUnsafe
end Go.Proofs.YtjfekjbmgckkcaaDoor
