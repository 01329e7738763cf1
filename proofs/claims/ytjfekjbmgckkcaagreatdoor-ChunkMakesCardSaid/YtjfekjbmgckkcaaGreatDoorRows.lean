/-
  NARROWER THAN 'FOR EVERY INPUT', by the rows' own cells (each row's printed sentence says how): HeadPuts: laid · HeadReads: laid · FchunkMakes: laid · FchunkAppends: laid · FchunkStill: laid · FchunkCopies: laid · ChunkMakes: laid · ChunkAppends: laid · ChunkCopies: laid · ChunkSteady: laid.
  DERIVED. THE GIVEN ROWS OF THIS SEAT. 10 by the template 'for every input the law returns true; each argument reads behind the call as it read before'; 0 by the template 'total and deterministic' (their statements: YtjfekjbmgckkcaaGreatDoorTotals.lean).
  GIVEN WITH THE SEED: the statements are not yours to turn. If you find one false, say at which input.
  Laid BY PROGRAM, IN A SANDBOX (cutbox-rows.mjs): the forced cells as the released guide's own fill.sh prints them over the translation 852b0975b6e7d8c3… (all of the seat's roots in one cut). By AI agents, Wed Nov 11 2026. No macro, syntax, notation, axiom, sorry.
-/
import Derived.Test.YtjfekjbmgckkcaaGreatDoorChecked
import GoSem.Claim
import GoSem.ClaimJoined
import GoSem.ClaimMapViews
import Derived.JoinedTies
import Derived.KernelRfl
namespace Go.Proofs.YtjfekjbmgckkcaaGreatDoor
/- THE CELL 'sum', in the pinned program and in every row, IS THE sha256 OF THE DUMP (.gsa) THAT YtjfekjbmgckkcaaGreatDoorProg.lean LOADS. Nothing in Lean hashes anything: it is a label: what it is worth is what the hold of that sum in a sandbox is worth. -/
noncomputable def Tryz.pinned : Pinned := { name := "ytjfekjbmgckkcaagreatdoor", sum := "852b0975b6e7d8c3083614a04e807b84dbf7e847697e59bbaa34419e40414b5f", checked := Tryz.checked }
namespace Rows
def none {H : Type} : Left H := { results := [], args := [] }

/- WHAT THE LISTED PACKAGE-LEVEL VARIABLES READ AS WHEN THE CALL BEGINS. Each datum BY PROGRAM (the guide's laid-datum.mjs) off the statement by which the dump's own 'gosem.cut.vars' lays the variable. In a bare row this is a premise. The card (YtjfekjbmgckkcaaGreatDoorCards.lean) ties it to the program's text. -/
def laid_errors_errorType {H : Type} : DataW H := .iface "internal/reflectlite.rtype" (.agg [.ptr (.lit (.string [101, 114, 114, 111, 114]))])
def laid_tidepole_varbit_behinds {H : Type} : DataW H := .agg [.lit (.int .i64 0), .lit (.int .i64 3), .lit (.int .i64 6), .lit (.int .i64 9), .lit (.int .i64 12), .lit (.int .i64 18), .lit (.int .i64 25), .lit (.int .i64 56), .lit (.int .i64 64)]
def laid_math_bits_deBruijn64tab {H : Type} : DataW H := .agg [.lit (.int .u8 0), .lit (.int .u8 1), .lit (.int .u8 56), .lit (.int .u8 2), .lit (.int .u8 57), .lit (.int .u8 49), .lit (.int .u8 28), .lit (.int .u8 3), .lit (.int .u8 61), .lit (.int .u8 58), .lit (.int .u8 42), .lit (.int .u8 50), .lit (.int .u8 38), .lit (.int .u8 29), .lit (.int .u8 17), .lit (.int .u8 4), .lit (.int .u8 62), .lit (.int .u8 47), .lit (.int .u8 59), .lit (.int .u8 36), .lit (.int .u8 45), .lit (.int .u8 43), .lit (.int .u8 51), .lit (.int .u8 22), .lit (.int .u8 53), .lit (.int .u8 39), .lit (.int .u8 33), .lit (.int .u8 30), .lit (.int .u8 24), .lit (.int .u8 18), .lit (.int .u8 12), .lit (.int .u8 5), .lit (.int .u8 63), .lit (.int .u8 55), .lit (.int .u8 48), .lit (.int .u8 27), .lit (.int .u8 60), .lit (.int .u8 41), .lit (.int .u8 37), .lit (.int .u8 16), .lit (.int .u8 46), .lit (.int .u8 35), .lit (.int .u8 44), .lit (.int .u8 21), .lit (.int .u8 52), .lit (.int .u8 32), .lit (.int .u8 23), .lit (.int .u8 11), .lit (.int .u8 54), .lit (.int .u8 26), .lit (.int .u8 40), .lit (.int .u8 15), .lit (.int .u8 34), .lit (.int .u8 20), .lit (.int .u8 31), .lit (.int .u8 10), .lit (.int .u8 25), .lit (.int .u8 14), .lit (.int .u8 19), .lit (.int .u8 9), .lit (.int .u8 13), .lit (.int .u8 8), .lit (.int .u8 7), .lit (.int .u8 6)]

/-- 'tidepolelaw14.HeadPuts': WHATEVER THE INPUT: true; the input reads as it did. -/
def headPutsSpec : ChangeSpec := { name := "headPuts", fn := fun _ => fun
  | [d1, d2] => { results := [.lit (.bool true)], args := [d1, d2] }
  | _ => none }
def headPutsRow : OpenClaim := { program := "ytjfekjbmgckkcaagreatdoor", sum := "852b0975b6e7d8c3083614a04e807b84dbf7e847697e59bbaa34419e40414b5f", func := "tidepole/tidepolelaw14.HeadPuts", spec := "headPuts", inPlace := ["internal/reflectlite.ValueOf", "(internal/reflectlite.Value).Type", "(internal/reflectlite.Value).IsNil", "internal/reflectlite.TypeOf", "(internal/reflectlite.Value).Elem", "(internal/reflectlite.Value).Set"], unfollowed := true, recurses := true, named := ["errors.errorType", "tidepole/varbit.behinds"], apart := false, laid := [("errors.errorType", laid_errors_errorType), ("tidepole/varbit.behinds", laid_tidepole_varbit_behinds)] }
def HeadPutsSaid : Prop := headPutsRow.holds Tryz.pinned (OpenSpec.ofChange headPutsSpec)

/-- ITS FALSE NEIGHBOUR: 'it returns false'. Refute it at one input. -/
def headPutsWrong : ChangeSpec := { name := "headPuts", fn := fun _ => fun
  | [d1, d2] => { results := [.lit (.bool false)], args := [d1, d2] }
  | _ => none }
def HeadPutsWrongFalsely : Prop := headPutsRow.holds Tryz.pinned (OpenSpec.ofChange headPutsWrong)

/-- 'tidepolelaw14.HeadReads': WHATEVER THE INPUT: true; the input reads as it did. -/
def headReadsSpec : ChangeSpec := { name := "headReads", fn := fun _ => fun
  | [d1, d2] => { results := [.lit (.bool true)], args := [d1, d2] }
  | _ => none }
def headReadsRow : OpenClaim := { program := "ytjfekjbmgckkcaagreatdoor", sum := "852b0975b6e7d8c3083614a04e807b84dbf7e847697e59bbaa34419e40414b5f", func := "tidepole/tidepolelaw14.HeadReads", spec := "headReads", inPlace := ["internal/reflectlite.ValueOf", "(internal/reflectlite.Value).Type", "(internal/reflectlite.Value).IsNil", "internal/reflectlite.TypeOf", "(internal/reflectlite.Value).Elem", "(internal/reflectlite.Value).Set"], unfollowed := true, recurses := true, named := ["errors.errorType", "tidepole/varbit.behinds"], apart := false, laid := [("errors.errorType", laid_errors_errorType), ("tidepole/varbit.behinds", laid_tidepole_varbit_behinds)] }
def HeadReadsSaid : Prop := headReadsRow.holds Tryz.pinned (OpenSpec.ofChange headReadsSpec)

/-- ITS FALSE NEIGHBOUR: 'it returns false'. Refute it at one input. -/
def headReadsWrong : ChangeSpec := { name := "headReads", fn := fun _ => fun
  | [d1, d2] => { results := [.lit (.bool false)], args := [d1, d2] }
  | _ => none }
def HeadReadsWrongFalsely : Prop := headReadsRow.holds Tryz.pinned (OpenSpec.ofChange headReadsWrong)

/-- 'tidepolelaw18.FchunkMakes': WHATEVER THE INPUT: true; the input reads as it did. -/
def fchunkMakesSpec : ChangeSpec := { name := "fchunkMakes", fn := fun _ => fun
  | [d] => { results := [.lit (.bool true)], args := [d] }
  | _ => none }
def fchunkMakesRow : OpenClaim := { program := "ytjfekjbmgckkcaagreatdoor", sum := "852b0975b6e7d8c3083614a04e807b84dbf7e847697e59bbaa34419e40414b5f", func := "tidepole/tidepolelaw18.FchunkMakes", spec := "fchunkMakes", inPlace := ["internal/reflectlite.ValueOf", "(internal/reflectlite.Value).Type", "(internal/reflectlite.Value).IsNil", "internal/reflectlite.TypeOf", "(internal/reflectlite.Value).Elem", "(internal/reflectlite.Value).Set"], unfollowed := true, recurses := true, named := ["errors.errorType", "tidepole/varbit.behinds", "math/bits.deBruijn64tab"], apart := false, laid := [("math/bits.deBruijn64tab", laid_math_bits_deBruijn64tab), ("errors.errorType", laid_errors_errorType), ("tidepole/varbit.behinds", laid_tidepole_varbit_behinds)] }
def FchunkMakesSaid : Prop := fchunkMakesRow.holds Tryz.pinned (OpenSpec.ofChange fchunkMakesSpec)

/-- ITS FALSE NEIGHBOUR: 'it returns false'. Refute it at one input. -/
def fchunkMakesWrong : ChangeSpec := { name := "fchunkMakes", fn := fun _ => fun
  | [d] => { results := [.lit (.bool false)], args := [d] }
  | _ => none }
def FchunkMakesWrongFalsely : Prop := fchunkMakesRow.holds Tryz.pinned (OpenSpec.ofChange fchunkMakesWrong)

/-- 'tidepolelaw18.FchunkAppends': WHATEVER THE INPUT: true; the input reads as it did. -/
def fchunkAppendsSpec : ChangeSpec := { name := "fchunkAppends", fn := fun _ => fun
  | [d1, d2] => { results := [.lit (.bool true)], args := [d1, d2] }
  | _ => none }
def fchunkAppendsRow : OpenClaim := { program := "ytjfekjbmgckkcaagreatdoor", sum := "852b0975b6e7d8c3083614a04e807b84dbf7e847697e59bbaa34419e40414b5f", func := "tidepole/tidepolelaw18.FchunkAppends", spec := "fchunkAppends", inPlace := ["internal/reflectlite.ValueOf", "(internal/reflectlite.Value).Type", "(internal/reflectlite.Value).IsNil", "internal/reflectlite.TypeOf", "(internal/reflectlite.Value).Elem", "(internal/reflectlite.Value).Set"], unfollowed := true, recurses := true, named := ["errors.errorType", "tidepole/varbit.behinds", "math/bits.deBruijn64tab"], apart := false, laid := [("math/bits.deBruijn64tab", laid_math_bits_deBruijn64tab), ("errors.errorType", laid_errors_errorType), ("tidepole/varbit.behinds", laid_tidepole_varbit_behinds)] }
def FchunkAppendsSaid : Prop := fchunkAppendsRow.holds Tryz.pinned (OpenSpec.ofChange fchunkAppendsSpec)

/-- ITS FALSE NEIGHBOUR: 'it returns false'. Refute it at one input. -/
def fchunkAppendsWrong : ChangeSpec := { name := "fchunkAppends", fn := fun _ => fun
  | [d1, d2] => { results := [.lit (.bool false)], args := [d1, d2] }
  | _ => none }
def FchunkAppendsWrongFalsely : Prop := fchunkAppendsRow.holds Tryz.pinned (OpenSpec.ofChange fchunkAppendsWrong)

/-- 'tidepolelaw18.FchunkStill': WHATEVER THE INPUT: true; the input reads as it did. -/
def fchunkStillSpec : ChangeSpec := { name := "fchunkStill", fn := fun _ => fun
  | [d1, d2, d3] => { results := [.lit (.bool true)], args := [d1, d2, d3] }
  | _ => none }
def fchunkStillRow : OpenClaim := { program := "ytjfekjbmgckkcaagreatdoor", sum := "852b0975b6e7d8c3083614a04e807b84dbf7e847697e59bbaa34419e40414b5f", func := "tidepole/tidepolelaw18.FchunkStill", spec := "fchunkStill", inPlace := ["internal/reflectlite.ValueOf", "(internal/reflectlite.Value).Type", "(internal/reflectlite.Value).IsNil", "internal/reflectlite.TypeOf", "(internal/reflectlite.Value).Elem", "(internal/reflectlite.Value).Set"], unfollowed := true, recurses := true, named := ["errors.errorType", "tidepole/varbit.behinds", "math/bits.deBruijn64tab"], apart := false, laid := [("math/bits.deBruijn64tab", laid_math_bits_deBruijn64tab), ("errors.errorType", laid_errors_errorType), ("tidepole/varbit.behinds", laid_tidepole_varbit_behinds)] }
def FchunkStillSaid : Prop := fchunkStillRow.holds Tryz.pinned (OpenSpec.ofChange fchunkStillSpec)

/-- ITS FALSE NEIGHBOUR: 'it returns false'. Refute it at one input. -/
def fchunkStillWrong : ChangeSpec := { name := "fchunkStill", fn := fun _ => fun
  | [d1, d2, d3] => { results := [.lit (.bool false)], args := [d1, d2, d3] }
  | _ => none }
def FchunkStillWrongFalsely : Prop := fchunkStillRow.holds Tryz.pinned (OpenSpec.ofChange fchunkStillWrong)

/-- 'tidepolelaw18.FchunkCopies': WHATEVER THE INPUT: true; the input reads as it did. -/
def fchunkCopiesSpec : ChangeSpec := { name := "fchunkCopies", fn := fun _ => fun
  | [d1, d2, d3] => { results := [.lit (.bool true)], args := [d1, d2, d3] }
  | _ => none }
def fchunkCopiesRow : OpenClaim := { program := "ytjfekjbmgckkcaagreatdoor", sum := "852b0975b6e7d8c3083614a04e807b84dbf7e847697e59bbaa34419e40414b5f", func := "tidepole/tidepolelaw18.FchunkCopies", spec := "fchunkCopies", inPlace := ["internal/reflectlite.ValueOf", "(internal/reflectlite.Value).Type", "(internal/reflectlite.Value).IsNil", "internal/reflectlite.TypeOf", "(internal/reflectlite.Value).Elem", "(internal/reflectlite.Value).Set"], unfollowed := true, recurses := true, named := ["errors.errorType", "tidepole/varbit.behinds", "math/bits.deBruijn64tab"], apart := false, laid := [("math/bits.deBruijn64tab", laid_math_bits_deBruijn64tab), ("errors.errorType", laid_errors_errorType), ("tidepole/varbit.behinds", laid_tidepole_varbit_behinds)] }
def FchunkCopiesSaid : Prop := fchunkCopiesRow.holds Tryz.pinned (OpenSpec.ofChange fchunkCopiesSpec)

/-- ITS FALSE NEIGHBOUR: 'it returns false'. Refute it at one input. -/
def fchunkCopiesWrong : ChangeSpec := { name := "fchunkCopies", fn := fun _ => fun
  | [d1, d2, d3] => { results := [.lit (.bool false)], args := [d1, d2, d3] }
  | _ => none }
def FchunkCopiesWrongFalsely : Prop := fchunkCopiesRow.holds Tryz.pinned (OpenSpec.ofChange fchunkCopiesWrong)

/-- 'tidepolelaw15.ChunkMakes': WHATEVER THE INPUT: true; the input reads as it did. -/
def chunkMakesSpec : ChangeSpec := { name := "chunkMakes", fn := fun _ => fun
  | [d] => { results := [.lit (.bool true)], args := [d] }
  | _ => none }
def chunkMakesRow : OpenClaim := { program := "ytjfekjbmgckkcaagreatdoor", sum := "852b0975b6e7d8c3083614a04e807b84dbf7e847697e59bbaa34419e40414b5f", func := "tidepole/tidepolelaw15.ChunkMakes", spec := "chunkMakes", inPlace := ["internal/reflectlite.ValueOf", "(internal/reflectlite.Value).Type", "(internal/reflectlite.Value).IsNil", "internal/reflectlite.TypeOf", "(internal/reflectlite.Value).Elem", "(internal/reflectlite.Value).Set", "math/bits.Add64"], unfollowed := true, recurses := true, named := ["errors.errorType", "tidepole/varbit.behinds", "math/bits.deBruijn64tab"], apart := false, laid := [("math/bits.deBruijn64tab", laid_math_bits_deBruijn64tab), ("errors.errorType", laid_errors_errorType), ("tidepole/varbit.behinds", laid_tidepole_varbit_behinds)] }
def ChunkMakesSaid : Prop := chunkMakesRow.holds Tryz.pinned (OpenSpec.ofChange chunkMakesSpec)

/-- ITS FALSE NEIGHBOUR: 'it returns false'. Refute it at one input. -/
def chunkMakesWrong : ChangeSpec := { name := "chunkMakes", fn := fun _ => fun
  | [d] => { results := [.lit (.bool false)], args := [d] }
  | _ => none }
def ChunkMakesWrongFalsely : Prop := chunkMakesRow.holds Tryz.pinned (OpenSpec.ofChange chunkMakesWrong)

/-- 'tidepolelaw15.ChunkAppends': WHATEVER THE INPUT: true; the input reads as it did. -/
def chunkAppendsSpec : ChangeSpec := { name := "chunkAppends", fn := fun _ => fun
  | [d1, d2] => { results := [.lit (.bool true)], args := [d1, d2] }
  | _ => none }
def chunkAppendsRow : OpenClaim := { program := "ytjfekjbmgckkcaagreatdoor", sum := "852b0975b6e7d8c3083614a04e807b84dbf7e847697e59bbaa34419e40414b5f", func := "tidepole/tidepolelaw15.ChunkAppends", spec := "chunkAppends", inPlace := ["internal/reflectlite.ValueOf", "(internal/reflectlite.Value).Type", "(internal/reflectlite.Value).IsNil", "internal/reflectlite.TypeOf", "(internal/reflectlite.Value).Elem", "(internal/reflectlite.Value).Set", "math/bits.Add64"], unfollowed := true, recurses := true, named := ["errors.errorType", "tidepole/varbit.behinds", "math/bits.deBruijn64tab"], apart := false, laid := [("math/bits.deBruijn64tab", laid_math_bits_deBruijn64tab), ("errors.errorType", laid_errors_errorType), ("tidepole/varbit.behinds", laid_tidepole_varbit_behinds)] }
def ChunkAppendsSaid : Prop := chunkAppendsRow.holds Tryz.pinned (OpenSpec.ofChange chunkAppendsSpec)

/-- ITS FALSE NEIGHBOUR: 'it returns false'. Refute it at one input. -/
def chunkAppendsWrong : ChangeSpec := { name := "chunkAppends", fn := fun _ => fun
  | [d1, d2] => { results := [.lit (.bool false)], args := [d1, d2] }
  | _ => none }
def ChunkAppendsWrongFalsely : Prop := chunkAppendsRow.holds Tryz.pinned (OpenSpec.ofChange chunkAppendsWrong)

/-- 'tidepolelaw15.ChunkCopies': WHATEVER THE INPUT: true; the input reads as it did. -/
def chunkCopiesSpec : ChangeSpec := { name := "chunkCopies", fn := fun _ => fun
  | [d1, d2, d3] => { results := [.lit (.bool true)], args := [d1, d2, d3] }
  | _ => none }
def chunkCopiesRow : OpenClaim := { program := "ytjfekjbmgckkcaagreatdoor", sum := "852b0975b6e7d8c3083614a04e807b84dbf7e847697e59bbaa34419e40414b5f", func := "tidepole/tidepolelaw15.ChunkCopies", spec := "chunkCopies", inPlace := ["internal/reflectlite.ValueOf", "(internal/reflectlite.Value).Type", "(internal/reflectlite.Value).IsNil", "internal/reflectlite.TypeOf", "(internal/reflectlite.Value).Elem", "(internal/reflectlite.Value).Set", "math/bits.Add64"], unfollowed := true, recurses := true, named := ["errors.errorType", "tidepole/varbit.behinds", "math/bits.deBruijn64tab"], apart := false, laid := [("math/bits.deBruijn64tab", laid_math_bits_deBruijn64tab), ("errors.errorType", laid_errors_errorType), ("tidepole/varbit.behinds", laid_tidepole_varbit_behinds)] }
def ChunkCopiesSaid : Prop := chunkCopiesRow.holds Tryz.pinned (OpenSpec.ofChange chunkCopiesSpec)

/-- ITS FALSE NEIGHBOUR: 'it returns false'. Refute it at one input. -/
def chunkCopiesWrong : ChangeSpec := { name := "chunkCopies", fn := fun _ => fun
  | [d1, d2, d3] => { results := [.lit (.bool false)], args := [d1, d2, d3] }
  | _ => none }
def ChunkCopiesWrongFalsely : Prop := chunkCopiesRow.holds Tryz.pinned (OpenSpec.ofChange chunkCopiesWrong)

/-- 'tidepolelaw15.ChunkSteady': WHATEVER THE INPUT: true; the input reads as it did. -/
def chunkSteadySpec : ChangeSpec := { name := "chunkSteady", fn := fun _ => fun
  | [d1, d2, d3] => { results := [.lit (.bool true)], args := [d1, d2, d3] }
  | _ => none }
def chunkSteadyRow : OpenClaim := { program := "ytjfekjbmgckkcaagreatdoor", sum := "852b0975b6e7d8c3083614a04e807b84dbf7e847697e59bbaa34419e40414b5f", func := "tidepole/tidepolelaw15.ChunkSteady", spec := "chunkSteady", inPlace := ["internal/reflectlite.ValueOf", "(internal/reflectlite.Value).Type", "(internal/reflectlite.Value).IsNil", "internal/reflectlite.TypeOf", "(internal/reflectlite.Value).Elem", "(internal/reflectlite.Value).Set", "math/bits.Add64"], unfollowed := true, recurses := true, named := ["errors.errorType", "tidepole/varbit.behinds", "math/bits.deBruijn64tab"], apart := false, laid := [("math/bits.deBruijn64tab", laid_math_bits_deBruijn64tab), ("errors.errorType", laid_errors_errorType), ("tidepole/varbit.behinds", laid_tidepole_varbit_behinds)] }
def ChunkSteadySaid : Prop := chunkSteadyRow.holds Tryz.pinned (OpenSpec.ofChange chunkSteadySpec)

/-- ITS FALSE NEIGHBOUR: 'it returns false'. Refute it at one input. -/
def chunkSteadyWrong : ChangeSpec := { name := "chunkSteady", fn := fun _ => fun
  | [d1, d2, d3] => { results := [.lit (.bool false)], args := [d1, d2, d3] }
  | _ => none }
def ChunkSteadyWrongFalsely : Prop := chunkSteadyRow.holds Tryz.pinned (OpenSpec.ofChange chunkSteadyWrong)

/- THE SECOND FORM. 'bulk': how many values and letters a reading holds, each counted each time it is reached (what is shared counts as often as it is met; a slice's spare places count too). A statement '..UptoSaid' is the law's where the arguments, and the package variables that the reading takes, are together of bulk at most 1048576: NARROWER than '..Said'. Prove '..Said' where nothing that the law and all that it calls make is longer than what came in: it says more and counts as full. Else prove '..UptoSaid'. A law counts once. -/
mutual
def uptoBulk {H : Type} : DataW H → Nat
  | .lit (.string bytes) => bytes.length + 1
  | .lit _ => 1
  | .nil => 1
  | .ptr d => uptoBulk d + 1
  | .slice elems spare => uptoBulkAll elems + uptoBulkAll spare + 1
  | .agg parts => uptoBulkAll parts + 1
  | .iface _ d => uptoBulk d + 1
  | .map entries => uptoBulkEntries entries + 1
  | .held _ => 1
def uptoBulkAll {H : Type} : List (DataW H) → Nat
  | [] => 0
  | d :: r => uptoBulk d + uptoBulkAll r
def uptoBulkEntries {H : Type} : List (Lit × DataW H) → Nat
  | [] => 0
  | x :: r => uptoBulkEntry x + uptoBulkEntries r
def uptoBulkEntry {H : Type} : Lit × DataW H → Nat
  | (.string bytes, d) => bytes.length + uptoBulk d + 1
  | (_, d) => uptoBulk d + 1
 end
def uptoSmall : (H : Type) → List (DataW H) → Bool := fun _ ds => decide (uptoBulkAll ds ≤ 1048576)
def OpenSpec.upto (s : _root_.Go.ChangeSpec) : _root_.Go.OpenSpec := { _root_.Go.OpenSpec.ofChange s with cond := some uptoSmall }

/-- 'tidepolelaw14.HeadPuts', WHERE WHAT IT READS IS OF BULK AT MOST 1048576: true; the input reads as it did. -/
def headPutsUptoRow : OpenClaim := { program := "ytjfekjbmgckkcaagreatdoor", sum := "852b0975b6e7d8c3083614a04e807b84dbf7e847697e59bbaa34419e40414b5f", func := "tidepole/tidepolelaw14.HeadPuts", spec := "headPuts", inPlace := ["internal/reflectlite.ValueOf", "(internal/reflectlite.Value).Type", "(internal/reflectlite.Value).IsNil", "internal/reflectlite.TypeOf", "(internal/reflectlite.Value).Elem", "(internal/reflectlite.Value).Set"], unfollowed := true, recurses := true, named := ["errors.errorType", "tidepole/varbit.behinds"], apart := false, laid := [("errors.errorType", laid_errors_errorType), ("tidepole/varbit.behinds", laid_tidepole_varbit_behinds)], narrowed := true }
def HeadPutsUptoSaid : Prop := headPutsUptoRow.holds Tryz.pinned (OpenSpec.upto headPutsSpec)

/-- 'tidepolelaw14.HeadReads', WHERE WHAT IT READS IS OF BULK AT MOST 1048576: true; the input reads as it did. -/
def headReadsUptoRow : OpenClaim := { program := "ytjfekjbmgckkcaagreatdoor", sum := "852b0975b6e7d8c3083614a04e807b84dbf7e847697e59bbaa34419e40414b5f", func := "tidepole/tidepolelaw14.HeadReads", spec := "headReads", inPlace := ["internal/reflectlite.ValueOf", "(internal/reflectlite.Value).Type", "(internal/reflectlite.Value).IsNil", "internal/reflectlite.TypeOf", "(internal/reflectlite.Value).Elem", "(internal/reflectlite.Value).Set"], unfollowed := true, recurses := true, named := ["errors.errorType", "tidepole/varbit.behinds"], apart := false, laid := [("errors.errorType", laid_errors_errorType), ("tidepole/varbit.behinds", laid_tidepole_varbit_behinds)], narrowed := true }
def HeadReadsUptoSaid : Prop := headReadsUptoRow.holds Tryz.pinned (OpenSpec.upto headReadsSpec)

/-- 'tidepolelaw18.FchunkMakes', WHERE WHAT IT READS IS OF BULK AT MOST 1048576: true; the input reads as it did. -/
def fchunkMakesUptoRow : OpenClaim := { program := "ytjfekjbmgckkcaagreatdoor", sum := "852b0975b6e7d8c3083614a04e807b84dbf7e847697e59bbaa34419e40414b5f", func := "tidepole/tidepolelaw18.FchunkMakes", spec := "fchunkMakes", inPlace := ["internal/reflectlite.ValueOf", "(internal/reflectlite.Value).Type", "(internal/reflectlite.Value).IsNil", "internal/reflectlite.TypeOf", "(internal/reflectlite.Value).Elem", "(internal/reflectlite.Value).Set"], unfollowed := true, recurses := true, named := ["errors.errorType", "tidepole/varbit.behinds", "math/bits.deBruijn64tab"], apart := false, laid := [("math/bits.deBruijn64tab", laid_math_bits_deBruijn64tab), ("errors.errorType", laid_errors_errorType), ("tidepole/varbit.behinds", laid_tidepole_varbit_behinds)], narrowed := true }
def FchunkMakesUptoSaid : Prop := fchunkMakesUptoRow.holds Tryz.pinned (OpenSpec.upto fchunkMakesSpec)

/-- 'tidepolelaw18.FchunkAppends', WHERE WHAT IT READS IS OF BULK AT MOST 1048576: true; the input reads as it did. -/
def fchunkAppendsUptoRow : OpenClaim := { program := "ytjfekjbmgckkcaagreatdoor", sum := "852b0975b6e7d8c3083614a04e807b84dbf7e847697e59bbaa34419e40414b5f", func := "tidepole/tidepolelaw18.FchunkAppends", spec := "fchunkAppends", inPlace := ["internal/reflectlite.ValueOf", "(internal/reflectlite.Value).Type", "(internal/reflectlite.Value).IsNil", "internal/reflectlite.TypeOf", "(internal/reflectlite.Value).Elem", "(internal/reflectlite.Value).Set"], unfollowed := true, recurses := true, named := ["errors.errorType", "tidepole/varbit.behinds", "math/bits.deBruijn64tab"], apart := false, laid := [("math/bits.deBruijn64tab", laid_math_bits_deBruijn64tab), ("errors.errorType", laid_errors_errorType), ("tidepole/varbit.behinds", laid_tidepole_varbit_behinds)], narrowed := true }
def FchunkAppendsUptoSaid : Prop := fchunkAppendsUptoRow.holds Tryz.pinned (OpenSpec.upto fchunkAppendsSpec)

/-- 'tidepolelaw18.FchunkStill', WHERE WHAT IT READS IS OF BULK AT MOST 1048576: true; the input reads as it did. -/
def fchunkStillUptoRow : OpenClaim := { program := "ytjfekjbmgckkcaagreatdoor", sum := "852b0975b6e7d8c3083614a04e807b84dbf7e847697e59bbaa34419e40414b5f", func := "tidepole/tidepolelaw18.FchunkStill", spec := "fchunkStill", inPlace := ["internal/reflectlite.ValueOf", "(internal/reflectlite.Value).Type", "(internal/reflectlite.Value).IsNil", "internal/reflectlite.TypeOf", "(internal/reflectlite.Value).Elem", "(internal/reflectlite.Value).Set"], unfollowed := true, recurses := true, named := ["errors.errorType", "tidepole/varbit.behinds", "math/bits.deBruijn64tab"], apart := false, laid := [("math/bits.deBruijn64tab", laid_math_bits_deBruijn64tab), ("errors.errorType", laid_errors_errorType), ("tidepole/varbit.behinds", laid_tidepole_varbit_behinds)], narrowed := true }
def FchunkStillUptoSaid : Prop := fchunkStillUptoRow.holds Tryz.pinned (OpenSpec.upto fchunkStillSpec)

/-- 'tidepolelaw18.FchunkCopies', WHERE WHAT IT READS IS OF BULK AT MOST 1048576: true; the input reads as it did. -/
def fchunkCopiesUptoRow : OpenClaim := { program := "ytjfekjbmgckkcaagreatdoor", sum := "852b0975b6e7d8c3083614a04e807b84dbf7e847697e59bbaa34419e40414b5f", func := "tidepole/tidepolelaw18.FchunkCopies", spec := "fchunkCopies", inPlace := ["internal/reflectlite.ValueOf", "(internal/reflectlite.Value).Type", "(internal/reflectlite.Value).IsNil", "internal/reflectlite.TypeOf", "(internal/reflectlite.Value).Elem", "(internal/reflectlite.Value).Set"], unfollowed := true, recurses := true, named := ["errors.errorType", "tidepole/varbit.behinds", "math/bits.deBruijn64tab"], apart := false, laid := [("math/bits.deBruijn64tab", laid_math_bits_deBruijn64tab), ("errors.errorType", laid_errors_errorType), ("tidepole/varbit.behinds", laid_tidepole_varbit_behinds)], narrowed := true }
def FchunkCopiesUptoSaid : Prop := fchunkCopiesUptoRow.holds Tryz.pinned (OpenSpec.upto fchunkCopiesSpec)

/-- 'tidepolelaw15.ChunkMakes', WHERE WHAT IT READS IS OF BULK AT MOST 1048576: true; the input reads as it did. -/
def chunkMakesUptoRow : OpenClaim := { program := "ytjfekjbmgckkcaagreatdoor", sum := "852b0975b6e7d8c3083614a04e807b84dbf7e847697e59bbaa34419e40414b5f", func := "tidepole/tidepolelaw15.ChunkMakes", spec := "chunkMakes", inPlace := ["internal/reflectlite.ValueOf", "(internal/reflectlite.Value).Type", "(internal/reflectlite.Value).IsNil", "internal/reflectlite.TypeOf", "(internal/reflectlite.Value).Elem", "(internal/reflectlite.Value).Set", "math/bits.Add64"], unfollowed := true, recurses := true, named := ["errors.errorType", "tidepole/varbit.behinds", "math/bits.deBruijn64tab"], apart := false, laid := [("math/bits.deBruijn64tab", laid_math_bits_deBruijn64tab), ("errors.errorType", laid_errors_errorType), ("tidepole/varbit.behinds", laid_tidepole_varbit_behinds)], narrowed := true }
def ChunkMakesUptoSaid : Prop := chunkMakesUptoRow.holds Tryz.pinned (OpenSpec.upto chunkMakesSpec)

/-- 'tidepolelaw15.ChunkAppends', WHERE WHAT IT READS IS OF BULK AT MOST 1048576: true; the input reads as it did. -/
def chunkAppendsUptoRow : OpenClaim := { program := "ytjfekjbmgckkcaagreatdoor", sum := "852b0975b6e7d8c3083614a04e807b84dbf7e847697e59bbaa34419e40414b5f", func := "tidepole/tidepolelaw15.ChunkAppends", spec := "chunkAppends", inPlace := ["internal/reflectlite.ValueOf", "(internal/reflectlite.Value).Type", "(internal/reflectlite.Value).IsNil", "internal/reflectlite.TypeOf", "(internal/reflectlite.Value).Elem", "(internal/reflectlite.Value).Set", "math/bits.Add64"], unfollowed := true, recurses := true, named := ["errors.errorType", "tidepole/varbit.behinds", "math/bits.deBruijn64tab"], apart := false, laid := [("math/bits.deBruijn64tab", laid_math_bits_deBruijn64tab), ("errors.errorType", laid_errors_errorType), ("tidepole/varbit.behinds", laid_tidepole_varbit_behinds)], narrowed := true }
def ChunkAppendsUptoSaid : Prop := chunkAppendsUptoRow.holds Tryz.pinned (OpenSpec.upto chunkAppendsSpec)

/-- 'tidepolelaw15.ChunkCopies', WHERE WHAT IT READS IS OF BULK AT MOST 1048576: true; the input reads as it did. -/
def chunkCopiesUptoRow : OpenClaim := { program := "ytjfekjbmgckkcaagreatdoor", sum := "852b0975b6e7d8c3083614a04e807b84dbf7e847697e59bbaa34419e40414b5f", func := "tidepole/tidepolelaw15.ChunkCopies", spec := "chunkCopies", inPlace := ["internal/reflectlite.ValueOf", "(internal/reflectlite.Value).Type", "(internal/reflectlite.Value).IsNil", "internal/reflectlite.TypeOf", "(internal/reflectlite.Value).Elem", "(internal/reflectlite.Value).Set", "math/bits.Add64"], unfollowed := true, recurses := true, named := ["errors.errorType", "tidepole/varbit.behinds", "math/bits.deBruijn64tab"], apart := false, laid := [("math/bits.deBruijn64tab", laid_math_bits_deBruijn64tab), ("errors.errorType", laid_errors_errorType), ("tidepole/varbit.behinds", laid_tidepole_varbit_behinds)], narrowed := true }
def ChunkCopiesUptoSaid : Prop := chunkCopiesUptoRow.holds Tryz.pinned (OpenSpec.upto chunkCopiesSpec)

/-- 'tidepolelaw15.ChunkSteady', WHERE WHAT IT READS IS OF BULK AT MOST 1048576: true; the input reads as it did. -/
def chunkSteadyUptoRow : OpenClaim := { program := "ytjfekjbmgckkcaagreatdoor", sum := "852b0975b6e7d8c3083614a04e807b84dbf7e847697e59bbaa34419e40414b5f", func := "tidepole/tidepolelaw15.ChunkSteady", spec := "chunkSteady", inPlace := ["internal/reflectlite.ValueOf", "(internal/reflectlite.Value).Type", "(internal/reflectlite.Value).IsNil", "internal/reflectlite.TypeOf", "(internal/reflectlite.Value).Elem", "(internal/reflectlite.Value).Set", "math/bits.Add64"], unfollowed := true, recurses := true, named := ["errors.errorType", "tidepole/varbit.behinds", "math/bits.deBruijn64tab"], apart := false, laid := [("math/bits.deBruijn64tab", laid_math_bits_deBruijn64tab), ("errors.errorType", laid_errors_errorType), ("tidepole/varbit.behinds", laid_tidepole_varbit_behinds)], narrowed := true }
def ChunkSteadyUptoSaid : Prop := chunkSteadyUptoRow.holds Tryz.pinned (OpenSpec.upto chunkSteadySpec)

end Rows
end Go.Proofs.YtjfekjbmgckkcaaGreatDoor
