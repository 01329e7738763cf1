/- what fail asks of the world, out of the row's condition. -/
import Derived.Test.YtaenincbmlcjiaaDoorLaw02A
import Derived.Test.YtaenincbmlcjiaaDoorRows
import Derived.LaidMore
import Derived.Lib.LaidTab
import Derived.Stop.LaidErr
namespace Go.Proofs.YtaenincbmlcjiaaDoor.FailLaid
open Go.RowKit Go.Proofs.YtaenincbmlcjiaaDoorW.PrintWords
open Go.Proofs.YtaenincbmlcjiaaDoor.Base Go.Proofs.YtaenincbmlcjiaaDoor.FailAs Go.Proofs.YtaenincbmlcjiaaDoor.FailD Go.Proofs.YtaenincbmlcjiaaDoor.FailF Go.Proofs.YtaenincbmlcjiaaDoor.Law02A

abbrev laidAll : List (String × DataW Unit) := [("math/bits.deBruijn32tab", Rows.laid_math_bits_deBruijn32tab), ("math/bits.deBruijn64tab", Rows.laid_math_bits_deBruijn64tab), ("internal/strconv.uint64pow10", Rows.laid_internal_strconv_uint64pow10), ("errors.errorType", Rows.laid_errors_errorType), ("tidepole/fail.ErrClosed", Rows.laid_tidepole_fail_ErrClosed)]
theorem wf_in {n : Int} (h : (Lit.int .i64 n).wf = true) : In64 n := by
  simp [Lit.wf, IntKind.min, IntKind.max, IntKind.bits, IntKind.signed] at h
  unfold In64
  omega
theorem rt : (Tryd.prog.cutTypes.find? (·.1 == "internal/reflectlite.rtype")).map (·.2) = some 79 := by kernel_rfl
theorem gEt : Tryd.prog.globalNamed "errors.errorType" = some 1 := by kernel_rfl
theorem oneRow : ((List.range 142).filter fun t => Tryd.prog.rowNamed t [101, 114, 114, 111, 114]) = [27] := by kernel_rfl
theorem tySize : Tryd.prog.types.size = 142 := by kernel_rfl
theorem gPow : Tryd.prog.globalNamed "internal/strconv.uint64pow10" = some 2 := by kernel_rfl
theorem tPow : (Tryd.prog.globals[2]?).map (·.type) = some 101 := by kernel_rfl
theorem cPow : Tryd.prog.cellsOf 101 = 20 := by kernel_rfl
theorem cU64 : Tryd.prog.cellsOf 94 = 1 := by kernel_rfl
theorem gCl : Tryd.prog.globalNamed "tidepole/fail.ErrClosed" = some 0 := by kernel_rfl
theorem tCl : (Tryd.prog.globals[0]?).map (·.type) = some 27 := by kernel_rfl
theorem star : "*" ++ "errors.errorString" = "*errors.errorString" := by decide
theorem rowCl (u : TypeId) (h : Tryd.prog.typeName? 3 u = some "*errors.errorString") : u = 110 :=
  typeName_ptr_named (nm := "errors.errorString") (by rw [star]; kernel_rfl) (by kernel_rfl) (by decide) u (by rw [star]; exact h)
theorem cErr : Tryd.prog.cellsOf 130 = 1 := by kernel_rfl
theorem cStr : Tryd.prog.cellsOf 9 = 1 := by kernel_rfl
theorem split_laid (w : World) : laidMetH Tryd.prog laidAll w = (laidMet Tryd.prog [("math/bits.deBruijn32tab", Rows.laid_math_bits_deBruijn32tab), ("math/bits.deBruijn64tab", Rows.laid_math_bits_deBruijn64tab), ("internal/strconv.uint64pow10", Rows.laid_internal_strconv_uint64pow10), ("tidepole/fail.ErrClosed", Rows.laid_tidepole_fail_ErrClosed)] w ∧ handlesMet Tryd.prog [("errors.errorType", Rows.laid_errors_errorType)] w) := by kernel_rfl
theorem handle_of {w : World} (h : handlesMet Tryd.prog [("errors.errorType", Rows.laid_errors_errorType)] w) : GlE w := by
  have h1 : ∃ name u ty, (Rows.laid_errors_errorType (H := Unit)).handleName? = some name ∧ (Tryd.prog.cutTypes.find? (·.1 == "internal/reflectlite.rtype")).map (·.2) = some u ∧ ty < Tryd.prog.types.size ∧ Tryd.prog.rowNamed ty name = true ∧ w.var? Tryd.prog "errors.errorType" = some #[.iface u (.agg #[typeHandle Tryd.prog ty])] := h _ (List.mem_singleton.2 rfl)
  obtain ⟨name, u, ty, e1, e2, e3, e4, e5⟩ := h1
  have en : name = [101, 114, 114, 111, 114] := (Option.some.inj e1).symm
  subst en
  obtain rfl := Option.some.inj (rt.symm.trans e2)
  have hm : ty ∈ (List.range 142).filter fun t => Tryd.prog.rowNamed t [101, 114, 114, 111, 114] := List.mem_filter.2 ⟨List.mem_range.2 (by rw [← tySize]; exact e3), e4⟩
  rw [oneRow] at hm
  obtain rfl := List.mem_singleton.1 hm
  have hh : typeHandle Tryd.prog 27 = .pointer (some ⟨5, 27, none⟩) := by kernel_rfl
  rw [hh] at e5
  simpa [GlE] using World.var?_cell gEt e5 0
theorem gl_of {w : World} (h : laidMetH Tryd.prog laidAll w) : ∃ a, Gl w a := by
  rw [split_laid] at h
  obtain ⟨h1, h2⟩ := h
  have h3 := h1.tail.tail
  have h4 := h3.tail
  have hp : laidMet Tryd.prog (("internal/strconv.uint64pow10", Lib.tabData .u64 Lib.pow10Tab) :: [("tidepole/fail.ErrClosed", Rows.laid_tidepole_fail_ErrClosed)]) w := h3
  have ht := Lib.tabIs_of_head gPow tPow Tryd.underlying101 Tryd.underlying94 cU64 cPow hp
  obtain ⟨a, s, hv, -⟩ := laid_sentinel (text := [99, 108, 111, 115, 101, 100]) h4 gCl tCl Tryd.underlying27 rowCl Tryd.underlying110 Tryd.underlying130 rfl rfl Tryd.underlying9 cErr cStr
  exact ⟨a, handle_of h2, by simpa [GlC] using World.var?_cell gCl hv 0, ht⟩
end Go.Proofs.YtaenincbmlcjiaaDoor.FailLaid
