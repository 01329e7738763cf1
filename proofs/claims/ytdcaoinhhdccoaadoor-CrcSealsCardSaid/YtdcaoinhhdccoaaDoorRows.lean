/-
  NARROWER THAN 'FOR EVERY INPUT', by the rows' own cells (each row's printed sentence says how): CrcSums: laid · CrcSeals: laid · CrcTurns: laid · CrcBursts: laid · CrcSpoils: laid · CrcSame: laid · CrcRest: laid.
  DERIVED. THE GIVEN ROWS OF THIS SEAT. 7 by the template 'for every input the law returns true; each argument reads behind the call as it read before'; 0 by the template 'total and deterministic' (their statements: YtdcaoinhhdccoaaDoorTotals.lean).
  GIVEN WITH THE SEED: the statements are not yours to turn. If you find one false, say at which input.
  Laid BY PROGRAM, IN A SANDBOX (cutbox-rows.mjs): the forced cells as the released guide's own fill.sh prints them over the translation c3618c418591514e… (all of the seat's roots in one cut). By AI agents, Wed Nov 11 2026. No macro, syntax, notation, axiom, sorry.
-/
import Derived.Test.YtdcaoinhhdccoaaDoorChecked
import GoSem.Claim
import GoSem.ClaimJoined
import GoSem.ClaimMapViews
import Derived.JoinedTies
import Derived.KernelRfl
namespace Go.Proofs.YtdcaoinhhdccoaaDoor
/- THE CELL 'sum', in the pinned program and in every row, IS THE sha256 OF THE DUMP (.gsa) THAT YtdcaoinhhdccoaaDoorProg.lean LOADS. Nothing in Lean hashes anything: it is a label: what it is worth is what the hold of that sum in a sandbox is worth. -/
noncomputable def Tryd.pinned : Pinned := { name := "ytdcaoinhhdccoaadoor", sum := "c3618c418591514e30ee0d88a5dec43bb96ac43d061be31e3ddd9dfafb9bdb0f", checked := Tryd.checked }
namespace Rows
def none {H : Type} : Left H := { results := [], args := [] }

/- WHAT THE LISTED PACKAGE-LEVEL VARIABLES READ AS WHEN THE CALL BEGINS. Each datum BY PROGRAM (the guide's laid-datum.mjs) off the statement by which the dump's own 'gosem.cut.vars' lays the variable. In a bare row this is a premise. The card (YtdcaoinhhdccoaaDoorCards.lean) ties it to the program's text. -/
def laid_math_bits_deBruijn32tab {H : Type} : DataW H := .agg [.lit (.int .u8 0), .lit (.int .u8 1), .lit (.int .u8 28), .lit (.int .u8 2), .lit (.int .u8 29), .lit (.int .u8 14), .lit (.int .u8 24), .lit (.int .u8 3), .lit (.int .u8 30), .lit (.int .u8 22), .lit (.int .u8 20), .lit (.int .u8 15), .lit (.int .u8 25), .lit (.int .u8 17), .lit (.int .u8 4), .lit (.int .u8 8), .lit (.int .u8 31), .lit (.int .u8 27), .lit (.int .u8 13), .lit (.int .u8 23), .lit (.int .u8 21), .lit (.int .u8 19), .lit (.int .u8 16), .lit (.int .u8 7), .lit (.int .u8 26), .lit (.int .u8 12), .lit (.int .u8 18), .lit (.int .u8 6), .lit (.int .u8 11), .lit (.int .u8 5), .lit (.int .u8 10), .lit (.int .u8 9)]

/-- 'tidepolelaw23.CrcSums': WHATEVER THE INPUT: true; the input reads as it did. -/
def crcSumsSpec : ChangeSpec := { name := "crcSums", fn := fun _ => fun
  | [d1, d2] => { results := [.lit (.bool true)], args := [d1, d2] }
  | _ => none }
def crcSumsRow : OpenClaim := { program := "ytdcaoinhhdccoaadoor", sum := "c3618c418591514e30ee0d88a5dec43bb96ac43d061be31e3ddd9dfafb9bdb0f", func := "tidepole/tidepolelaw23.CrcSums", spec := "crcSums", named := ["math/bits.deBruijn32tab"], apart := false, laid := [("math/bits.deBruijn32tab", laid_math_bits_deBruijn32tab)] }
def CrcSumsSaid : Prop := crcSumsRow.holds Tryd.pinned (OpenSpec.ofChange crcSumsSpec)

/-- ITS FALSE NEIGHBOUR: 'it returns false'. Refute it at one input. -/
def crcSumsWrong : ChangeSpec := { name := "crcSums", fn := fun _ => fun
  | [d1, d2] => { results := [.lit (.bool false)], args := [d1, d2] }
  | _ => none }
def CrcSumsWrongFalsely : Prop := crcSumsRow.holds Tryd.pinned (OpenSpec.ofChange crcSumsWrong)

/-- 'tidepolelaw23.CrcSeals': WHATEVER THE INPUT: true; the input reads as it did. -/
def crcSealsSpec : ChangeSpec := { name := "crcSeals", fn := fun _ => fun
  | [d] => { results := [.lit (.bool true)], args := [d] }
  | _ => none }
def crcSealsRow : OpenClaim := { program := "ytdcaoinhhdccoaadoor", sum := "c3618c418591514e30ee0d88a5dec43bb96ac43d061be31e3ddd9dfafb9bdb0f", func := "tidepole/tidepolelaw23.CrcSeals", spec := "crcSeals", named := ["math/bits.deBruijn32tab"], apart := false, laid := [("math/bits.deBruijn32tab", laid_math_bits_deBruijn32tab)] }
def CrcSealsSaid : Prop := crcSealsRow.holds Tryd.pinned (OpenSpec.ofChange crcSealsSpec)

/-- ITS FALSE NEIGHBOUR: 'it returns false'. Refute it at one input. -/
def crcSealsWrong : ChangeSpec := { name := "crcSeals", fn := fun _ => fun
  | [d] => { results := [.lit (.bool false)], args := [d] }
  | _ => none }
def CrcSealsWrongFalsely : Prop := crcSealsRow.holds Tryd.pinned (OpenSpec.ofChange crcSealsWrong)

/-- 'tidepolelaw23.CrcTurns': WHATEVER THE INPUT: true; the input reads as it did. -/
def crcTurnsSpec : ChangeSpec := { name := "crcTurns", fn := fun _ => fun
  | [d1, d2, d3] => { results := [.lit (.bool true)], args := [d1, d2, d3] }
  | _ => none }
def crcTurnsRow : OpenClaim := { program := "ytdcaoinhhdccoaadoor", sum := "c3618c418591514e30ee0d88a5dec43bb96ac43d061be31e3ddd9dfafb9bdb0f", func := "tidepole/tidepolelaw23.CrcTurns", spec := "crcTurns", named := ["math/bits.deBruijn32tab"], apart := false, laid := [("math/bits.deBruijn32tab", laid_math_bits_deBruijn32tab)] }
def CrcTurnsSaid : Prop := crcTurnsRow.holds Tryd.pinned (OpenSpec.ofChange crcTurnsSpec)

/-- ITS FALSE NEIGHBOUR: 'it returns false'. Refute it at one input. -/
def crcTurnsWrong : ChangeSpec := { name := "crcTurns", fn := fun _ => fun
  | [d1, d2, d3] => { results := [.lit (.bool false)], args := [d1, d2, d3] }
  | _ => none }
def CrcTurnsWrongFalsely : Prop := crcTurnsRow.holds Tryd.pinned (OpenSpec.ofChange crcTurnsWrong)

/-- 'tidepolelaw23.CrcBursts': WHATEVER THE INPUT: true; the input reads as it did. -/
def crcBurstsSpec : ChangeSpec := { name := "crcBursts", fn := fun _ => fun
  | [d1, d2, d3] => { results := [.lit (.bool true)], args := [d1, d2, d3] }
  | _ => none }
def crcBurstsRow : OpenClaim := { program := "ytdcaoinhhdccoaadoor", sum := "c3618c418591514e30ee0d88a5dec43bb96ac43d061be31e3ddd9dfafb9bdb0f", func := "tidepole/tidepolelaw23.CrcBursts", spec := "crcBursts", named := ["math/bits.deBruijn32tab"], apart := false, laid := [("math/bits.deBruijn32tab", laid_math_bits_deBruijn32tab)] }
def CrcBurstsSaid : Prop := crcBurstsRow.holds Tryd.pinned (OpenSpec.ofChange crcBurstsSpec)

/-- ITS FALSE NEIGHBOUR: 'it returns false'. Refute it at one input. -/
def crcBurstsWrong : ChangeSpec := { name := "crcBursts", fn := fun _ => fun
  | [d1, d2, d3] => { results := [.lit (.bool false)], args := [d1, d2, d3] }
  | _ => none }
def CrcBurstsWrongFalsely : Prop := crcBurstsRow.holds Tryd.pinned (OpenSpec.ofChange crcBurstsWrong)

/-- 'tidepolelaw23.CrcSpoils': WHATEVER THE INPUT: true; the input reads as it did. -/
def crcSpoilsSpec : ChangeSpec := { name := "crcSpoils", fn := fun _ => fun
  | [d1, d2, d3] => { results := [.lit (.bool true)], args := [d1, d2, d3] }
  | _ => none }
def crcSpoilsRow : OpenClaim := { program := "ytdcaoinhhdccoaadoor", sum := "c3618c418591514e30ee0d88a5dec43bb96ac43d061be31e3ddd9dfafb9bdb0f", func := "tidepole/tidepolelaw23.CrcSpoils", spec := "crcSpoils", named := ["math/bits.deBruijn32tab"], apart := false, laid := [("math/bits.deBruijn32tab", laid_math_bits_deBruijn32tab)] }
def CrcSpoilsSaid : Prop := crcSpoilsRow.holds Tryd.pinned (OpenSpec.ofChange crcSpoilsSpec)

/-- ITS FALSE NEIGHBOUR: 'it returns false'. Refute it at one input. -/
def crcSpoilsWrong : ChangeSpec := { name := "crcSpoils", fn := fun _ => fun
  | [d1, d2, d3] => { results := [.lit (.bool false)], args := [d1, d2, d3] }
  | _ => none }
def CrcSpoilsWrongFalsely : Prop := crcSpoilsRow.holds Tryd.pinned (OpenSpec.ofChange crcSpoilsWrong)

/-- 'tidepolelaw23.CrcSame': WHATEVER THE INPUT: true; the input reads as it did. -/
def crcSameSpec : ChangeSpec := { name := "crcSame", fn := fun _ => fun
  | [d1, d2, d3] => { results := [.lit (.bool true)], args := [d1, d2, d3] }
  | _ => none }
def crcSameRow : OpenClaim := { program := "ytdcaoinhhdccoaadoor", sum := "c3618c418591514e30ee0d88a5dec43bb96ac43d061be31e3ddd9dfafb9bdb0f", func := "tidepole/tidepolelaw23.CrcSame", spec := "crcSame", named := ["math/bits.deBruijn32tab"], apart := false, laid := [("math/bits.deBruijn32tab", laid_math_bits_deBruijn32tab)] }
def CrcSameSaid : Prop := crcSameRow.holds Tryd.pinned (OpenSpec.ofChange crcSameSpec)

/-- ITS FALSE NEIGHBOUR: 'it returns false'. Refute it at one input. -/
def crcSameWrong : ChangeSpec := { name := "crcSame", fn := fun _ => fun
  | [d1, d2, d3] => { results := [.lit (.bool false)], args := [d1, d2, d3] }
  | _ => none }
def CrcSameWrongFalsely : Prop := crcSameRow.holds Tryd.pinned (OpenSpec.ofChange crcSameWrong)

/-- 'tidepolelaw23.CrcRest': WHATEVER THE INPUT: true; the input reads as it did. -/
def crcRestSpec : ChangeSpec := { name := "crcRest", fn := fun _ => fun
  | [d] => { results := [.lit (.bool true)], args := [d] }
  | _ => none }
def crcRestRow : OpenClaim := { program := "ytdcaoinhhdccoaadoor", sum := "c3618c418591514e30ee0d88a5dec43bb96ac43d061be31e3ddd9dfafb9bdb0f", func := "tidepole/tidepolelaw23.CrcRest", spec := "crcRest", named := ["math/bits.deBruijn32tab"], apart := false, laid := [("math/bits.deBruijn32tab", laid_math_bits_deBruijn32tab)] }
def CrcRestSaid : Prop := crcRestRow.holds Tryd.pinned (OpenSpec.ofChange crcRestSpec)

/-- ITS FALSE NEIGHBOUR: 'it returns false'. Refute it at one input. -/
def crcRestWrong : ChangeSpec := { name := "crcRest", fn := fun _ => fun
  | [d] => { results := [.lit (.bool false)], args := [d] }
  | _ => none }
def CrcRestWrongFalsely : Prop := crcRestRow.holds Tryd.pinned (OpenSpec.ofChange crcRestWrong)

/- THE SECOND FORM. 'bulk': how many values and letters a reading holds, each counted each time it is reached (what is shared counts as often as it is met; a slice's spare places count too). A statement '..UptoSaid' is the law's where the arguments, and the package variables that the reading takes, are together of bulk at most 1048576: NARROWER than '..Said'. Prove '..Said' where nothing that the law and all that it calls make is longer than what came in: it says more and counts as full. Else prove '..UptoSaid'. A law counts once. -/
mutual
def uptoBulk {H : Type} : DataW H → Nat
  | .lit (.string bytes) => bytes.length + 1
  | .lit _ => 1
  | .nil => 1
  | .ptr d => uptoBulk d + 1
  | .slice elems spare => uptoBulkAll elems + uptoBulkAll spare + 1
  | .agg parts => uptoBulkAll parts + 1
  | .iface _ d => uptoBulk d + 1
  | .map entries => uptoBulkEntries entries + 1
  | .held _ => 1
def uptoBulkAll {H : Type} : List (DataW H) → Nat
  | [] => 0
  | d :: r => uptoBulk d + uptoBulkAll r
def uptoBulkEntries {H : Type} : List (Lit × DataW H) → Nat
  | [] => 0
  | x :: r => uptoBulkEntry x + uptoBulkEntries r
def uptoBulkEntry {H : Type} : Lit × DataW H → Nat
  | (.string bytes, d) => bytes.length + uptoBulk d + 1
  | (_, d) => uptoBulk d + 1
 end
def uptoSmall : (H : Type) → List (DataW H) → Bool := fun _ ds => decide (uptoBulkAll ds ≤ 1048576)
def OpenSpec.upto (s : _root_.Go.ChangeSpec) : _root_.Go.OpenSpec := { _root_.Go.OpenSpec.ofChange s with cond := some uptoSmall }

/-- 'tidepolelaw23.CrcSums', WHERE WHAT IT READS IS OF BULK AT MOST 1048576: true; the input reads as it did. -/
def crcSumsUptoRow : OpenClaim := { program := "ytdcaoinhhdccoaadoor", sum := "c3618c418591514e30ee0d88a5dec43bb96ac43d061be31e3ddd9dfafb9bdb0f", func := "tidepole/tidepolelaw23.CrcSums", spec := "crcSums", named := ["math/bits.deBruijn32tab"], apart := false, laid := [("math/bits.deBruijn32tab", laid_math_bits_deBruijn32tab)], narrowed := true }
def CrcSumsUptoSaid : Prop := crcSumsUptoRow.holds Tryd.pinned (OpenSpec.upto crcSumsSpec)

/-- 'tidepolelaw23.CrcSeals', WHERE WHAT IT READS IS OF BULK AT MOST 1048576: true; the input reads as it did. -/
def crcSealsUptoRow : OpenClaim := { program := "ytdcaoinhhdccoaadoor", sum := "c3618c418591514e30ee0d88a5dec43bb96ac43d061be31e3ddd9dfafb9bdb0f", func := "tidepole/tidepolelaw23.CrcSeals", spec := "crcSeals", named := ["math/bits.deBruijn32tab"], apart := false, laid := [("math/bits.deBruijn32tab", laid_math_bits_deBruijn32tab)], narrowed := true }
def CrcSealsUptoSaid : Prop := crcSealsUptoRow.holds Tryd.pinned (OpenSpec.upto crcSealsSpec)

/-- 'tidepolelaw23.CrcTurns', WHERE WHAT IT READS IS OF BULK AT MOST 1048576: true; the input reads as it did. -/
def crcTurnsUptoRow : OpenClaim := { program := "ytdcaoinhhdccoaadoor", sum := "c3618c418591514e30ee0d88a5dec43bb96ac43d061be31e3ddd9dfafb9bdb0f", func := "tidepole/tidepolelaw23.CrcTurns", spec := "crcTurns", named := ["math/bits.deBruijn32tab"], apart := false, laid := [("math/bits.deBruijn32tab", laid_math_bits_deBruijn32tab)], narrowed := true }
def CrcTurnsUptoSaid : Prop := crcTurnsUptoRow.holds Tryd.pinned (OpenSpec.upto crcTurnsSpec)

/-- 'tidepolelaw23.CrcBursts', WHERE WHAT IT READS IS OF BULK AT MOST 1048576: true; the input reads as it did. -/
def crcBurstsUptoRow : OpenClaim := { program := "ytdcaoinhhdccoaadoor", sum := "c3618c418591514e30ee0d88a5dec43bb96ac43d061be31e3ddd9dfafb9bdb0f", func := "tidepole/tidepolelaw23.CrcBursts", spec := "crcBursts", named := ["math/bits.deBruijn32tab"], apart := false, laid := [("math/bits.deBruijn32tab", laid_math_bits_deBruijn32tab)], narrowed := true }
def CrcBurstsUptoSaid : Prop := crcBurstsUptoRow.holds Tryd.pinned (OpenSpec.upto crcBurstsSpec)

/-- 'tidepolelaw23.CrcSpoils', WHERE WHAT IT READS IS OF BULK AT MOST 1048576: true; the input reads as it did. -/
def crcSpoilsUptoRow : OpenClaim := { program := "ytdcaoinhhdccoaadoor", sum := "c3618c418591514e30ee0d88a5dec43bb96ac43d061be31e3ddd9dfafb9bdb0f", func := "tidepole/tidepolelaw23.CrcSpoils", spec := "crcSpoils", named := ["math/bits.deBruijn32tab"], apart := false, laid := [("math/bits.deBruijn32tab", laid_math_bits_deBruijn32tab)], narrowed := true }
def CrcSpoilsUptoSaid : Prop := crcSpoilsUptoRow.holds Tryd.pinned (OpenSpec.upto crcSpoilsSpec)

/-- 'tidepolelaw23.CrcSame', WHERE WHAT IT READS IS OF BULK AT MOST 1048576: true; the input reads as it did. -/
def crcSameUptoRow : OpenClaim := { program := "ytdcaoinhhdccoaadoor", sum := "c3618c418591514e30ee0d88a5dec43bb96ac43d061be31e3ddd9dfafb9bdb0f", func := "tidepole/tidepolelaw23.CrcSame", spec := "crcSame", named := ["math/bits.deBruijn32tab"], apart := false, laid := [("math/bits.deBruijn32tab", laid_math_bits_deBruijn32tab)], narrowed := true }
def CrcSameUptoSaid : Prop := crcSameUptoRow.holds Tryd.pinned (OpenSpec.upto crcSameSpec)

/-- 'tidepolelaw23.CrcRest', WHERE WHAT IT READS IS OF BULK AT MOST 1048576: true; the input reads as it did. -/
def crcRestUptoRow : OpenClaim := { program := "ytdcaoinhhdccoaadoor", sum := "c3618c418591514e30ee0d88a5dec43bb96ac43d061be31e3ddd9dfafb9bdb0f", func := "tidepole/tidepolelaw23.CrcRest", spec := "crcRest", named := ["math/bits.deBruijn32tab"], apart := false, laid := [("math/bits.deBruijn32tab", laid_math_bits_deBruijn32tab)], narrowed := true }
def CrcRestUptoSaid : Prop := crcRestUptoRow.holds Tryd.pinned (OpenSpec.upto crcRestSpec)

end Rows
end Go.Proofs.YtdcaoinhhdccoaaDoor
