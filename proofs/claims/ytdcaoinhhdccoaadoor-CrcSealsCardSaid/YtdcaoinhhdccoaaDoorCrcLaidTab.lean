/- the library's table, out of the row's condition. -/
import Derived.Test.YtdcaoinhhdccoaaDoorCrcBurst
import Derived.Test.YtdcaoinhhdccoaaDoorLawBase
import Derived.Test.YtdcaoinhhdccoaaDoorRows
namespace Go.Proofs.YtdcaoinhhdccoaaDoor.CrcLaidTab
open Go.RowKit Go.Proofs.YtdcaoinhhdccoaaDoorW.PrintWords
open Go.Proofs.YtdcaoinhhdccoaaDoor.Base Go.Proofs.YtdcaoinhhdccoaaDoor.CrcBurst

theorem gTab : Tryd.prog.globalNamed "math/bits.deBruijn32tab" = some 0 := by kernel_rfl
theorem tTab : (Tryd.prog.globals[0]?).map (·.type) = some 53 := by kernel_rfl
theorem cTab : Tryd.prog.cellsOf 53 = 32 := by kernel_rfl
theorem cEl : Tryd.prog.cellsOf 5 = 1 := by kernel_rfl
theorem tab_of {w : World} (h : laidMetH Tryd.prog [("math/bits.deBruijn32tab", Rows.laid_math_bits_deBruijn32tab)] w) : Tab w := by
  rw [MakeChecks.laidMetH_plain _ _ _ (by kernel_rfl)] at h
  have h2 : laidMet Tryd.prog [("math/bits.deBruijn32tab", Lib.tabData .u8 (Lib.deBruijn32tab.map Int.ofNat))] w := h
  have hv := Lib.tabIs_of_head gTab tTab Tryd.underlying53 Tryd.underlying5 cEl cTab h2
  intro j hj
  have := World.var?_cell gTab hv j
  rw [this]
  have hl : Lib.deBruijn32tab.length = 32 := rfl
  simp [List.getD_eq_getElem?_getD, show j < Lib.deBruijn32tab.length by omega]
end Go.Proofs.YtdcaoinhhdccoaaDoor.CrcLaidTab
