/-
  NARROWER THAN 'FOR EVERY INPUT', by the rows' own cells (each row's printed sentence says how): VarbitPuts: laid · VarbitReads: laid · VarbitRows: laid · VarbitGrows: laid · TimesReads: laid · TimesEven: laid · TimesRound: laid · TimesPuts: laid.
  DERIVED. THE GIVEN ROWS OF THIS SEAT. 8 by the template 'for every input the law returns true; each argument reads behind the call as it read before'; 0 by the template 'total and deterministic' (their statements: YtlbkdmggafkghaaDoorTotals.lean).
  GIVEN WITH THE SEED: the statements are not yours to turn. If you find one false, say at which input.
  Laid BY PROGRAM, IN A SANDBOX (cutbox-rows.mjs): the forced cells as the released guide's own fill.sh prints them over the translation 70e83482c5dfe810… (all of the seat's roots in one cut). By AI agents, Wed Nov 11 2026. No macro, syntax, notation, axiom, sorry.
-/
import Derived.Test.YtlbkdmggafkghaaDoorChecked
import GoSem.Claim
import GoSem.ClaimJoined
import GoSem.ClaimMapViews
import Derived.JoinedTies
import Derived.KernelRfl
namespace Go.Proofs.YtlbkdmggafkghaaDoor
/- THE CELL 'sum', in the pinned program and in every row, IS THE sha256 OF THE DUMP (.gsa) THAT YtlbkdmggafkghaaDoorProg.lean LOADS. Nothing in Lean hashes anything: it is a label: what it is worth is what the hold of that sum in a sandbox is worth. -/
noncomputable def Tryd.pinned : Pinned := { name := "ytlbkdmggafkghaadoor", sum := "70e83482c5dfe810863cbc412bbadf9f876f65e80ceaa0016f8b2fde9a5b3177", checked := Tryd.checked }
namespace Rows
def none {H : Type} : Left H := { results := [], args := [] }

/- WHAT THE LISTED PACKAGE-LEVEL VARIABLES READ AS WHEN THE CALL BEGINS. Each datum BY PROGRAM (the guide's laid-datum.mjs) off the statement by which the dump's own 'gosem.cut.vars' lays the variable. In a bare row this is a premise. The card (YtlbkdmggafkghaaDoorCards.lean) ties it to the program's text. -/
def laid_tidepole_varbit_behinds {H : Type} : DataW H := .agg [.lit (.int .i64 0), .lit (.int .i64 3), .lit (.int .i64 6), .lit (.int .i64 9), .lit (.int .i64 12), .lit (.int .i64 18), .lit (.int .i64 25), .lit (.int .i64 56), .lit (.int .i64 64)]

/-- 'tidepolelaw04.VarbitPuts': WHATEVER THE INPUT: true; the input reads as it did. -/
def varbitPutsSpec : ChangeSpec := { name := "varbitPuts", fn := fun _ => fun
  | [d1, d2] => { results := [.lit (.bool true)], args := [d1, d2] }
  | _ => none }
def varbitPutsRow : OpenClaim := { program := "ytlbkdmggafkghaadoor", sum := "70e83482c5dfe810863cbc412bbadf9f876f65e80ceaa0016f8b2fde9a5b3177", func := "tidepole/tidepolelaw04.VarbitPuts", spec := "varbitPuts", named := ["tidepole/varbit.behinds"], apart := false, laid := [("tidepole/varbit.behinds", laid_tidepole_varbit_behinds)] }
def VarbitPutsSaid : Prop := varbitPutsRow.holds Tryd.pinned (OpenSpec.ofChange varbitPutsSpec)

/-- ITS FALSE NEIGHBOUR: 'it returns false'. Refute it at one input. -/
def varbitPutsWrong : ChangeSpec := { name := "varbitPuts", fn := fun _ => fun
  | [d1, d2] => { results := [.lit (.bool false)], args := [d1, d2] }
  | _ => none }
def VarbitPutsWrongFalsely : Prop := varbitPutsRow.holds Tryd.pinned (OpenSpec.ofChange varbitPutsWrong)

/-- 'tidepolelaw04.VarbitReads': WHATEVER THE INPUT: true; the input reads as it did. -/
def varbitReadsSpec : ChangeSpec := { name := "varbitReads", fn := fun _ => fun
  | [d1, d2] => { results := [.lit (.bool true)], args := [d1, d2] }
  | _ => none }
def varbitReadsRow : OpenClaim := { program := "ytlbkdmggafkghaadoor", sum := "70e83482c5dfe810863cbc412bbadf9f876f65e80ceaa0016f8b2fde9a5b3177", func := "tidepole/tidepolelaw04.VarbitReads", spec := "varbitReads", named := ["tidepole/varbit.behinds"], apart := false, laid := [("tidepole/varbit.behinds", laid_tidepole_varbit_behinds)] }
def VarbitReadsSaid : Prop := varbitReadsRow.holds Tryd.pinned (OpenSpec.ofChange varbitReadsSpec)

/-- ITS FALSE NEIGHBOUR: 'it returns false'. Refute it at one input. -/
def varbitReadsWrong : ChangeSpec := { name := "varbitReads", fn := fun _ => fun
  | [d1, d2] => { results := [.lit (.bool false)], args := [d1, d2] }
  | _ => none }
def VarbitReadsWrongFalsely : Prop := varbitReadsRow.holds Tryd.pinned (OpenSpec.ofChange varbitReadsWrong)

/-- 'tidepolelaw04.VarbitRows': WHATEVER THE INPUT: true; the input reads as it did. -/
def varbitRowsSpec : ChangeSpec := { name := "varbitRows", fn := fun _ => fun
  | [d] => { results := [.lit (.bool true)], args := [d] }
  | _ => none }
def varbitRowsRow : OpenClaim := { program := "ytlbkdmggafkghaadoor", sum := "70e83482c5dfe810863cbc412bbadf9f876f65e80ceaa0016f8b2fde9a5b3177", func := "tidepole/tidepolelaw04.VarbitRows", spec := "varbitRows", named := ["tidepole/varbit.behinds"], apart := false, laid := [("tidepole/varbit.behinds", laid_tidepole_varbit_behinds)] }
def VarbitRowsSaid : Prop := varbitRowsRow.holds Tryd.pinned (OpenSpec.ofChange varbitRowsSpec)

/-- ITS FALSE NEIGHBOUR: 'it returns false'. Refute it at one input. -/
def varbitRowsWrong : ChangeSpec := { name := "varbitRows", fn := fun _ => fun
  | [d] => { results := [.lit (.bool false)], args := [d] }
  | _ => none }
def VarbitRowsWrongFalsely : Prop := varbitRowsRow.holds Tryd.pinned (OpenSpec.ofChange varbitRowsWrong)

/-- 'tidepolelaw04.VarbitGrows': WHATEVER THE INPUT: true; the input reads as it did. -/
def varbitGrowsSpec : ChangeSpec := { name := "varbitGrows", fn := fun _ => fun
  | [d1, d2] => { results := [.lit (.bool true)], args := [d1, d2] }
  | _ => none }
def varbitGrowsRow : OpenClaim := { program := "ytlbkdmggafkghaadoor", sum := "70e83482c5dfe810863cbc412bbadf9f876f65e80ceaa0016f8b2fde9a5b3177", func := "tidepole/tidepolelaw04.VarbitGrows", spec := "varbitGrows", named := ["tidepole/varbit.behinds"], apart := false, laid := [("tidepole/varbit.behinds", laid_tidepole_varbit_behinds)] }
def VarbitGrowsSaid : Prop := varbitGrowsRow.holds Tryd.pinned (OpenSpec.ofChange varbitGrowsSpec)

/-- ITS FALSE NEIGHBOUR: 'it returns false'. Refute it at one input. -/
def varbitGrowsWrong : ChangeSpec := { name := "varbitGrows", fn := fun _ => fun
  | [d1, d2] => { results := [.lit (.bool false)], args := [d1, d2] }
  | _ => none }
def VarbitGrowsWrongFalsely : Prop := varbitGrowsRow.holds Tryd.pinned (OpenSpec.ofChange varbitGrowsWrong)

/-- 'tidepolelaw13.TimesReads': WHATEVER THE INPUT: true; the input reads as it did. -/
def timesReadsSpec : ChangeSpec := { name := "timesReads", fn := fun _ => fun
  | [d1, d2, d3] => { results := [.lit (.bool true)], args := [d1, d2, d3] }
  | _ => none }
def timesReadsRow : OpenClaim := { program := "ytlbkdmggafkghaadoor", sum := "70e83482c5dfe810863cbc412bbadf9f876f65e80ceaa0016f8b2fde9a5b3177", func := "tidepole/tidepolelaw13.TimesReads", spec := "timesReads", named := ["tidepole/varbit.behinds"], apart := false, laid := [("tidepole/varbit.behinds", laid_tidepole_varbit_behinds)] }
def TimesReadsSaid : Prop := timesReadsRow.holds Tryd.pinned (OpenSpec.ofChange timesReadsSpec)

/-- ITS FALSE NEIGHBOUR: 'it returns false'. Refute it at one input. -/
def timesReadsWrong : ChangeSpec := { name := "timesReads", fn := fun _ => fun
  | [d1, d2, d3] => { results := [.lit (.bool false)], args := [d1, d2, d3] }
  | _ => none }
def TimesReadsWrongFalsely : Prop := timesReadsRow.holds Tryd.pinned (OpenSpec.ofChange timesReadsWrong)

/-- 'tidepolelaw13.TimesEven': WHATEVER THE INPUT: true; the input reads as it did. -/
def timesEvenSpec : ChangeSpec := { name := "timesEven", fn := fun _ => fun
  | [d1, d2, d3] => { results := [.lit (.bool true)], args := [d1, d2, d3] }
  | _ => none }
def timesEvenRow : OpenClaim := { program := "ytlbkdmggafkghaadoor", sum := "70e83482c5dfe810863cbc412bbadf9f876f65e80ceaa0016f8b2fde9a5b3177", func := "tidepole/tidepolelaw13.TimesEven", spec := "timesEven", named := ["tidepole/varbit.behinds"], apart := false, laid := [("tidepole/varbit.behinds", laid_tidepole_varbit_behinds)] }
def TimesEvenSaid : Prop := timesEvenRow.holds Tryd.pinned (OpenSpec.ofChange timesEvenSpec)

/-- ITS FALSE NEIGHBOUR: 'it returns false'. Refute it at one input. -/
def timesEvenWrong : ChangeSpec := { name := "timesEven", fn := fun _ => fun
  | [d1, d2, d3] => { results := [.lit (.bool false)], args := [d1, d2, d3] }
  | _ => none }
def TimesEvenWrongFalsely : Prop := timesEvenRow.holds Tryd.pinned (OpenSpec.ofChange timesEvenWrong)

/-- 'tidepolelaw13.TimesRound': WHATEVER THE INPUT: true; the input reads as it did. -/
def timesRoundSpec : ChangeSpec := { name := "timesRound", fn := fun _ => fun
  | [d1, d2] => { results := [.lit (.bool true)], args := [d1, d2] }
  | _ => none }
def timesRoundRow : OpenClaim := { program := "ytlbkdmggafkghaadoor", sum := "70e83482c5dfe810863cbc412bbadf9f876f65e80ceaa0016f8b2fde9a5b3177", func := "tidepole/tidepolelaw13.TimesRound", spec := "timesRound", named := ["tidepole/varbit.behinds"], apart := false, laid := [("tidepole/varbit.behinds", laid_tidepole_varbit_behinds)] }
def TimesRoundSaid : Prop := timesRoundRow.holds Tryd.pinned (OpenSpec.ofChange timesRoundSpec)

/-- ITS FALSE NEIGHBOUR: 'it returns false'. Refute it at one input. -/
def timesRoundWrong : ChangeSpec := { name := "timesRound", fn := fun _ => fun
  | [d1, d2] => { results := [.lit (.bool false)], args := [d1, d2] }
  | _ => none }
def TimesRoundWrongFalsely : Prop := timesRoundRow.holds Tryd.pinned (OpenSpec.ofChange timesRoundWrong)

/-- 'tidepolelaw13.TimesPuts': WHATEVER THE INPUT: true; the input reads as it did. -/
def timesPutsSpec : ChangeSpec := { name := "timesPuts", fn := fun _ => fun
  | [d] => { results := [.lit (.bool true)], args := [d] }
  | _ => none }
def timesPutsRow : OpenClaim := { program := "ytlbkdmggafkghaadoor", sum := "70e83482c5dfe810863cbc412bbadf9f876f65e80ceaa0016f8b2fde9a5b3177", func := "tidepole/tidepolelaw13.TimesPuts", spec := "timesPuts", named := ["tidepole/varbit.behinds"], apart := false, laid := [("tidepole/varbit.behinds", laid_tidepole_varbit_behinds)] }
def TimesPutsSaid : Prop := timesPutsRow.holds Tryd.pinned (OpenSpec.ofChange timesPutsSpec)

/-- ITS FALSE NEIGHBOUR: 'it returns false'. Refute it at one input. -/
def timesPutsWrong : ChangeSpec := { name := "timesPuts", fn := fun _ => fun
  | [d] => { results := [.lit (.bool false)], args := [d] }
  | _ => none }
def TimesPutsWrongFalsely : Prop := timesPutsRow.holds Tryd.pinned (OpenSpec.ofChange timesPutsWrong)

/- THE SECOND FORM. 'bulk': how many values and letters a reading holds, each counted each time it is reached (what is shared counts as often as it is met; a slice's spare places count too). A statement '..UptoSaid' is the law's where the arguments, and the package variables that the reading takes, are together of bulk at most 1048576: NARROWER than '..Said'. Prove '..Said' where nothing that the law and all that it calls make is longer than what came in: it says more and counts as full. Else prove '..UptoSaid'. A law counts once. -/
mutual
def uptoBulk {H : Type} : DataW H → Nat
  | .lit (.string bytes) => bytes.length + 1
  | .lit _ => 1
  | .nil => 1
  | .ptr d => uptoBulk d + 1
  | .slice elems spare => uptoBulkAll elems + uptoBulkAll spare + 1
  | .agg parts => uptoBulkAll parts + 1
  | .iface _ d => uptoBulk d + 1
  | .map entries => uptoBulkEntries entries + 1
  | .held _ => 1
def uptoBulkAll {H : Type} : List (DataW H) → Nat
  | [] => 0
  | d :: r => uptoBulk d + uptoBulkAll r
def uptoBulkEntries {H : Type} : List (Lit × DataW H) → Nat
  | [] => 0
  | x :: r => uptoBulkEntry x + uptoBulkEntries r
def uptoBulkEntry {H : Type} : Lit × DataW H → Nat
  | (.string bytes, d) => bytes.length + uptoBulk d + 1
  | (_, d) => uptoBulk d + 1
 end
def uptoSmall : (H : Type) → List (DataW H) → Bool := fun _ ds => decide (uptoBulkAll ds ≤ 1048576)
def OpenSpec.upto (s : _root_.Go.ChangeSpec) : _root_.Go.OpenSpec := { _root_.Go.OpenSpec.ofChange s with cond := some uptoSmall }

/-- 'tidepolelaw04.VarbitPuts', WHERE WHAT IT READS IS OF BULK AT MOST 1048576: true; the input reads as it did. -/
def varbitPutsUptoRow : OpenClaim := { program := "ytlbkdmggafkghaadoor", sum := "70e83482c5dfe810863cbc412bbadf9f876f65e80ceaa0016f8b2fde9a5b3177", func := "tidepole/tidepolelaw04.VarbitPuts", spec := "varbitPuts", named := ["tidepole/varbit.behinds"], apart := false, laid := [("tidepole/varbit.behinds", laid_tidepole_varbit_behinds)], narrowed := true }
def VarbitPutsUptoSaid : Prop := varbitPutsUptoRow.holds Tryd.pinned (OpenSpec.upto varbitPutsSpec)

/-- 'tidepolelaw04.VarbitReads', WHERE WHAT IT READS IS OF BULK AT MOST 1048576: true; the input reads as it did. -/
def varbitReadsUptoRow : OpenClaim := { program := "ytlbkdmggafkghaadoor", sum := "70e83482c5dfe810863cbc412bbadf9f876f65e80ceaa0016f8b2fde9a5b3177", func := "tidepole/tidepolelaw04.VarbitReads", spec := "varbitReads", named := ["tidepole/varbit.behinds"], apart := false, laid := [("tidepole/varbit.behinds", laid_tidepole_varbit_behinds)], narrowed := true }
def VarbitReadsUptoSaid : Prop := varbitReadsUptoRow.holds Tryd.pinned (OpenSpec.upto varbitReadsSpec)

/-- 'tidepolelaw04.VarbitRows', WHERE WHAT IT READS IS OF BULK AT MOST 1048576: true; the input reads as it did. -/
def varbitRowsUptoRow : OpenClaim := { program := "ytlbkdmggafkghaadoor", sum := "70e83482c5dfe810863cbc412bbadf9f876f65e80ceaa0016f8b2fde9a5b3177", func := "tidepole/tidepolelaw04.VarbitRows", spec := "varbitRows", named := ["tidepole/varbit.behinds"], apart := false, laid := [("tidepole/varbit.behinds", laid_tidepole_varbit_behinds)], narrowed := true }
def VarbitRowsUptoSaid : Prop := varbitRowsUptoRow.holds Tryd.pinned (OpenSpec.upto varbitRowsSpec)

/-- 'tidepolelaw04.VarbitGrows', WHERE WHAT IT READS IS OF BULK AT MOST 1048576: true; the input reads as it did. -/
def varbitGrowsUptoRow : OpenClaim := { program := "ytlbkdmggafkghaadoor", sum := "70e83482c5dfe810863cbc412bbadf9f876f65e80ceaa0016f8b2fde9a5b3177", func := "tidepole/tidepolelaw04.VarbitGrows", spec := "varbitGrows", named := ["tidepole/varbit.behinds"], apart := false, laid := [("tidepole/varbit.behinds", laid_tidepole_varbit_behinds)], narrowed := true }
def VarbitGrowsUptoSaid : Prop := varbitGrowsUptoRow.holds Tryd.pinned (OpenSpec.upto varbitGrowsSpec)

/-- 'tidepolelaw13.TimesReads', WHERE WHAT IT READS IS OF BULK AT MOST 1048576: true; the input reads as it did. -/
def timesReadsUptoRow : OpenClaim := { program := "ytlbkdmggafkghaadoor", sum := "70e83482c5dfe810863cbc412bbadf9f876f65e80ceaa0016f8b2fde9a5b3177", func := "tidepole/tidepolelaw13.TimesReads", spec := "timesReads", named := ["tidepole/varbit.behinds"], apart := false, laid := [("tidepole/varbit.behinds", laid_tidepole_varbit_behinds)], narrowed := true }
def TimesReadsUptoSaid : Prop := timesReadsUptoRow.holds Tryd.pinned (OpenSpec.upto timesReadsSpec)

/-- 'tidepolelaw13.TimesEven', WHERE WHAT IT READS IS OF BULK AT MOST 1048576: true; the input reads as it did. -/
def timesEvenUptoRow : OpenClaim := { program := "ytlbkdmggafkghaadoor", sum := "70e83482c5dfe810863cbc412bbadf9f876f65e80ceaa0016f8b2fde9a5b3177", func := "tidepole/tidepolelaw13.TimesEven", spec := "timesEven", named := ["tidepole/varbit.behinds"], apart := false, laid := [("tidepole/varbit.behinds", laid_tidepole_varbit_behinds)], narrowed := true }
def TimesEvenUptoSaid : Prop := timesEvenUptoRow.holds Tryd.pinned (OpenSpec.upto timesEvenSpec)

/-- 'tidepolelaw13.TimesRound', WHERE WHAT IT READS IS OF BULK AT MOST 1048576: true; the input reads as it did. -/
def timesRoundUptoRow : OpenClaim := { program := "ytlbkdmggafkghaadoor", sum := "70e83482c5dfe810863cbc412bbadf9f876f65e80ceaa0016f8b2fde9a5b3177", func := "tidepole/tidepolelaw13.TimesRound", spec := "timesRound", named := ["tidepole/varbit.behinds"], apart := false, laid := [("tidepole/varbit.behinds", laid_tidepole_varbit_behinds)], narrowed := true }
def TimesRoundUptoSaid : Prop := timesRoundUptoRow.holds Tryd.pinned (OpenSpec.upto timesRoundSpec)

/-- 'tidepolelaw13.TimesPuts', WHERE WHAT IT READS IS OF BULK AT MOST 1048576: true; the input reads as it did. -/
def timesPutsUptoRow : OpenClaim := { program := "ytlbkdmggafkghaadoor", sum := "70e83482c5dfe810863cbc412bbadf9f876f65e80ceaa0016f8b2fde9a5b3177", func := "tidepole/tidepolelaw13.TimesPuts", spec := "timesPuts", named := ["tidepole/varbit.behinds"], apart := false, laid := [("tidepole/varbit.behinds", laid_tidepole_varbit_behinds)], narrowed := true }
def TimesPutsUptoSaid : Prop := timesPutsUptoRow.holds Tryd.pinned (OpenSpec.upto timesPutsSpec)

end Rows
end Go.Proofs.YtlbkdmggafkghaaDoor
