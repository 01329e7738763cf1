/-
  No cell of these rows narrows 'for every input' (looked for: loops, veiled, ifaces, maps, wideKeys, modest, calm, conditions, laid).
  DERIVED. THE GIVEN ROWS OF THIS SEAT. 8 by the template 'for every input the law returns true; each argument reads behind the call as it read before'; 0 by the template 'total and deterministic' (their statements: YtaenincbmlcjiaaTotals.lean).
  GIVEN WITH THE SEED: the statements are not yours to turn. If you find one false, say at which input.
  Laid BY PROGRAM, IN A SANDBOX (cutbox-rows.mjs): the forced cells as the released guide's own fill.sh prints them over the translation 50e715b5333c6fa1… (all of the seat's roots in one cut). By AI agents, Wed Nov 11 2026. No macro, syntax, notation, axiom, sorry.
-/
import Derived.Test.YtaenincbmlcjiaaChecked
import GoSem.Claim
import GoSem.ClaimJoined
import GoSem.ClaimMapViews
import Derived.JoinedTies
import Derived.KernelRfl
namespace Go.Proofs.Ytaenincbmlcjiaa
/- THE CELL 'sum', in the pinned program and in every row, IS THE sha256 OF THE DUMP (.gsa) THAT YtaenincbmlcjiaaProg.lean LOADS. Nothing in Lean hashes anything: it is a label: what it is worth is what the hold of that sum in a sandbox is worth. -/
noncomputable def Try.pinned : Pinned := { name := "ytaenincbmlcjiaa", sum := "50e715b5333c6fa15f5854265e36164d924060dd62054e111df00fd8e2dde6e0", checked := Try.checked }
namespace Rows
def none {H : Type} : Left H := { results := [], args := [] }

/-- 'tidepolelaw06.SpanAll': WHATEVER THE INPUT: true; the input reads as it did. -/
def spanAllSpec : ChangeSpec := { name := "spanAll", fn := fun _ => fun
  | [d1, d2] => { results := [.lit (.bool true)], args := [d1, d2] }
  | _ => none }
def spanAllRow : OpenClaim := { program := "ytaenincbmlcjiaa", sum := "50e715b5333c6fa15f5854265e36164d924060dd62054e111df00fd8e2dde6e0", func := "tidepole/tidepolelaw06.SpanAll", spec := "spanAll", unfollowed := true, recurses := true, apart := false }
def SpanAllSaid : Prop := spanAllRow.holds Try.pinned (OpenSpec.ofChange spanAllSpec)

/-- ITS FALSE NEIGHBOUR: 'it returns false'. Refute it at one input. -/
def spanAllWrong : ChangeSpec := { name := "spanAll", fn := fun _ => fun
  | [d1, d2] => { results := [.lit (.bool false)], args := [d1, d2] }
  | _ => none }
def SpanAllWrongFalsely : Prop := spanAllRow.holds Try.pinned (OpenSpec.ofChange spanAllWrong)

/-- 'tidepolelaw06.SpanFrom': WHATEVER THE INPUT: true; the input reads as it did. -/
def spanFromSpec : ChangeSpec := { name := "spanFrom", fn := fun _ => fun
  | [d] => { results := [.lit (.bool true)], args := [d] }
  | _ => none }
def spanFromRow : OpenClaim := { program := "ytaenincbmlcjiaa", sum := "50e715b5333c6fa15f5854265e36164d924060dd62054e111df00fd8e2dde6e0", func := "tidepole/tidepolelaw06.SpanFrom", spec := "spanFrom", unfollowed := true, recurses := true, apart := false }
def SpanFromSaid : Prop := spanFromRow.holds Try.pinned (OpenSpec.ofChange spanFromSpec)

/-- ITS FALSE NEIGHBOUR: 'it returns false'. Refute it at one input. -/
def spanFromWrong : ChangeSpec := { name := "spanFrom", fn := fun _ => fun
  | [d] => { results := [.lit (.bool false)], args := [d] }
  | _ => none }
def SpanFromWrongFalsely : Prop := spanFromRow.holds Try.pinned (OpenSpec.ofChange spanFromWrong)

/-- 'tidepolelaw06.SpanCanon': WHATEVER THE INPUT: true; the input reads as it did. -/
def spanCanonSpec : ChangeSpec := { name := "spanCanon", fn := fun _ => fun
  | [d] => { results := [.lit (.bool true)], args := [d] }
  | _ => none }
def spanCanonRow : OpenClaim := { program := "ytaenincbmlcjiaa", sum := "50e715b5333c6fa15f5854265e36164d924060dd62054e111df00fd8e2dde6e0", func := "tidepole/tidepolelaw06.SpanCanon", spec := "spanCanon", unfollowed := true, recurses := true, apart := false }
def SpanCanonSaid : Prop := spanCanonRow.holds Try.pinned (OpenSpec.ofChange spanCanonSpec)

/-- ITS FALSE NEIGHBOUR: 'it returns false'. Refute it at one input. -/
def spanCanonWrong : ChangeSpec := { name := "spanCanon", fn := fun _ => fun
  | [d] => { results := [.lit (.bool false)], args := [d] }
  | _ => none }
def SpanCanonWrongFalsely : Prop := spanCanonRow.holds Try.pinned (OpenSpec.ofChange spanCanonWrong)

/-- 'tidepolelaw06.SpanUnions': WHATEVER THE INPUT: true; the input reads as it did. -/
def spanUnionsSpec : ChangeSpec := { name := "spanUnions", fn := fun _ => fun
  | [d1, d2] => { results := [.lit (.bool true)], args := [d1, d2] }
  | _ => none }
def spanUnionsRow : OpenClaim := { program := "ytaenincbmlcjiaa", sum := "50e715b5333c6fa15f5854265e36164d924060dd62054e111df00fd8e2dde6e0", func := "tidepole/tidepolelaw06.SpanUnions", spec := "spanUnions", unfollowed := true, recurses := true, apart := false }
def SpanUnionsSaid : Prop := spanUnionsRow.holds Try.pinned (OpenSpec.ofChange spanUnionsSpec)

/-- ITS FALSE NEIGHBOUR: 'it returns false'. Refute it at one input. -/
def spanUnionsWrong : ChangeSpec := { name := "spanUnions", fn := fun _ => fun
  | [d1, d2] => { results := [.lit (.bool false)], args := [d1, d2] }
  | _ => none }
def SpanUnionsWrongFalsely : Prop := spanUnionsRow.holds Try.pinned (OpenSpec.ofChange spanUnionsWrong)

/-- 'tidepolelaw08.LayoutExpands': WHATEVER THE INPUT: true; the input reads as it did. -/
def layoutExpandsSpec : ChangeSpec := { name := "layoutExpands", fn := fun _ => fun
  | [d1, d2, d3] => { results := [.lit (.bool true)], args := [d1, d2, d3] }
  | _ => none }
def layoutExpandsRow : OpenClaim := { program := "ytaenincbmlcjiaa", sum := "50e715b5333c6fa15f5854265e36164d924060dd62054e111df00fd8e2dde6e0", func := "tidepole/tidepolelaw08.LayoutExpands", spec := "layoutExpands", unfollowed := true, recurses := true, apart := false }
def LayoutExpandsSaid : Prop := layoutExpandsRow.holds Try.pinned (OpenSpec.ofChange layoutExpandsSpec)

/-- ITS FALSE NEIGHBOUR: 'it returns false'. Refute it at one input. -/
def layoutExpandsWrong : ChangeSpec := { name := "layoutExpands", fn := fun _ => fun
  | [d1, d2, d3] => { results := [.lit (.bool false)], args := [d1, d2, d3] }
  | _ => none }
def LayoutExpandsWrongFalsely : Prop := layoutExpandsRow.holds Try.pinned (OpenSpec.ofChange layoutExpandsWrong)

/-- 'tidepolelaw08.LayoutDeltas': WHATEVER THE INPUT: true; the input reads as it did. -/
def layoutDeltasSpec : ChangeSpec := { name := "layoutDeltas", fn := fun _ => fun
  | [d1, d2] => { results := [.lit (.bool true)], args := [d1, d2] }
  | _ => none }
def layoutDeltasRow : OpenClaim := { program := "ytaenincbmlcjiaa", sum := "50e715b5333c6fa15f5854265e36164d924060dd62054e111df00fd8e2dde6e0", func := "tidepole/tidepolelaw08.LayoutDeltas", spec := "layoutDeltas", unfollowed := true, recurses := true, apart := false }
def LayoutDeltasSaid : Prop := layoutDeltasRow.holds Try.pinned (OpenSpec.ofChange layoutDeltasSpec)

/-- ITS FALSE NEIGHBOUR: 'it returns false'. Refute it at one input. -/
def layoutDeltasWrong : ChangeSpec := { name := "layoutDeltas", fn := fun _ => fun
  | [d1, d2] => { results := [.lit (.bool false)], args := [d1, d2] }
  | _ => none }
def LayoutDeltasWrongFalsely : Prop := layoutDeltasRow.holds Try.pinned (OpenSpec.ofChange layoutDeltasWrong)

/-- 'tidepolelaw08.LayoutCompares': WHATEVER THE INPUT: true; the input reads as it did. -/
def layoutComparesSpec : ChangeSpec := { name := "layoutCompares", fn := fun _ => fun
  | [d1, d2, d3] => { results := [.lit (.bool true)], args := [d1, d2, d3] }
  | _ => none }
def layoutComparesRow : OpenClaim := { program := "ytaenincbmlcjiaa", sum := "50e715b5333c6fa15f5854265e36164d924060dd62054e111df00fd8e2dde6e0", func := "tidepole/tidepolelaw08.LayoutCompares", spec := "layoutCompares", unfollowed := true, recurses := true, apart := false }
def LayoutComparesSaid : Prop := layoutComparesRow.holds Try.pinned (OpenSpec.ofChange layoutComparesSpec)

/-- ITS FALSE NEIGHBOUR: 'it returns false'. Refute it at one input. -/
def layoutComparesWrong : ChangeSpec := { name := "layoutCompares", fn := fun _ => fun
  | [d1, d2, d3] => { results := [.lit (.bool false)], args := [d1, d2, d3] }
  | _ => none }
def LayoutComparesWrongFalsely : Prop := layoutComparesRow.holds Try.pinned (OpenSpec.ofChange layoutComparesWrong)

/-- 'tidepolelaw08.LayoutSelf': WHATEVER THE INPUT: true; the input reads as it did. -/
def layoutSelfSpec : ChangeSpec := { name := "layoutSelf", fn := fun _ => fun
  | [d1, d2] => { results := [.lit (.bool true)], args := [d1, d2] }
  | _ => none }
def layoutSelfRow : OpenClaim := { program := "ytaenincbmlcjiaa", sum := "50e715b5333c6fa15f5854265e36164d924060dd62054e111df00fd8e2dde6e0", func := "tidepole/tidepolelaw08.LayoutSelf", spec := "layoutSelf", unfollowed := true, recurses := true, apart := false }
def LayoutSelfSaid : Prop := layoutSelfRow.holds Try.pinned (OpenSpec.ofChange layoutSelfSpec)

/-- ITS FALSE NEIGHBOUR: 'it returns false'. Refute it at one input. -/
def layoutSelfWrong : ChangeSpec := { name := "layoutSelf", fn := fun _ => fun
  | [d1, d2] => { results := [.lit (.bool false)], args := [d1, d2] }
  | _ => none }
def LayoutSelfWrongFalsely : Prop := layoutSelfRow.holds Try.pinned (OpenSpec.ofChange layoutSelfWrong)

/- THE SECOND FORM. 'bulk': how many values and letters a reading holds, each counted each time it is reached (what is shared counts as often as it is met; a slice's spare places count too). A statement '..UptoSaid' is the law's where the arguments, and the package variables that the reading takes, are together of bulk at most 1048576: NARROWER than '..Said'. Prove '..Said' where nothing that the law and all that it calls make is longer than what came in: it says more and counts as full. Else prove '..UptoSaid'. A law counts once. -/
mutual
def uptoBulk {H : Type} : DataW H → Nat
  | .lit (.string bytes) => bytes.length + 1
  | .lit _ => 1
  | .nil => 1
  | .ptr d => uptoBulk d + 1
  | .slice elems spare => uptoBulkAll elems + uptoBulkAll spare + 1
  | .agg parts => uptoBulkAll parts + 1
  | .iface _ d => uptoBulk d + 1
  | .map entries => uptoBulkEntries entries + 1
  | .held _ => 1
def uptoBulkAll {H : Type} : List (DataW H) → Nat
  | [] => 0
  | d :: r => uptoBulk d + uptoBulkAll r
def uptoBulkEntries {H : Type} : List (Lit × DataW H) → Nat
  | [] => 0
  | x :: r => uptoBulkEntry x + uptoBulkEntries r
def uptoBulkEntry {H : Type} : Lit × DataW H → Nat
  | (.string bytes, d) => bytes.length + uptoBulk d + 1
  | (_, d) => uptoBulk d + 1
 end
def uptoSmall : (H : Type) → List (DataW H) → Bool := fun _ ds => decide (uptoBulkAll ds ≤ 1048576)
def OpenSpec.upto (s : _root_.Go.ChangeSpec) : _root_.Go.OpenSpec := { _root_.Go.OpenSpec.ofChange s with cond := some uptoSmall }

/-- 'tidepolelaw06.SpanAll', WHERE WHAT IT READS IS OF BULK AT MOST 1048576: true; the input reads as it did. -/
def spanAllUptoRow : OpenClaim := { program := "ytaenincbmlcjiaa", sum := "50e715b5333c6fa15f5854265e36164d924060dd62054e111df00fd8e2dde6e0", func := "tidepole/tidepolelaw06.SpanAll", spec := "spanAll", unfollowed := true, recurses := true, apart := false, narrowed := true }
def SpanAllUptoSaid : Prop := spanAllUptoRow.holds Try.pinned (OpenSpec.upto spanAllSpec)

/-- 'tidepolelaw06.SpanFrom', WHERE WHAT IT READS IS OF BULK AT MOST 1048576: true; the input reads as it did. -/
def spanFromUptoRow : OpenClaim := { program := "ytaenincbmlcjiaa", sum := "50e715b5333c6fa15f5854265e36164d924060dd62054e111df00fd8e2dde6e0", func := "tidepole/tidepolelaw06.SpanFrom", spec := "spanFrom", unfollowed := true, recurses := true, apart := false, narrowed := true }
def SpanFromUptoSaid : Prop := spanFromUptoRow.holds Try.pinned (OpenSpec.upto spanFromSpec)

/-- 'tidepolelaw06.SpanCanon', WHERE WHAT IT READS IS OF BULK AT MOST 1048576: true; the input reads as it did. -/
def spanCanonUptoRow : OpenClaim := { program := "ytaenincbmlcjiaa", sum := "50e715b5333c6fa15f5854265e36164d924060dd62054e111df00fd8e2dde6e0", func := "tidepole/tidepolelaw06.SpanCanon", spec := "spanCanon", unfollowed := true, recurses := true, apart := false, narrowed := true }
def SpanCanonUptoSaid : Prop := spanCanonUptoRow.holds Try.pinned (OpenSpec.upto spanCanonSpec)

/-- 'tidepolelaw06.SpanUnions', WHERE WHAT IT READS IS OF BULK AT MOST 1048576: true; the input reads as it did. -/
def spanUnionsUptoRow : OpenClaim := { program := "ytaenincbmlcjiaa", sum := "50e715b5333c6fa15f5854265e36164d924060dd62054e111df00fd8e2dde6e0", func := "tidepole/tidepolelaw06.SpanUnions", spec := "spanUnions", unfollowed := true, recurses := true, apart := false, narrowed := true }
def SpanUnionsUptoSaid : Prop := spanUnionsUptoRow.holds Try.pinned (OpenSpec.upto spanUnionsSpec)

/-- 'tidepolelaw08.LayoutExpands', WHERE WHAT IT READS IS OF BULK AT MOST 1048576: true; the input reads as it did. -/
def layoutExpandsUptoRow : OpenClaim := { program := "ytaenincbmlcjiaa", sum := "50e715b5333c6fa15f5854265e36164d924060dd62054e111df00fd8e2dde6e0", func := "tidepole/tidepolelaw08.LayoutExpands", spec := "layoutExpands", unfollowed := true, recurses := true, apart := false, narrowed := true }
def LayoutExpandsUptoSaid : Prop := layoutExpandsUptoRow.holds Try.pinned (OpenSpec.upto layoutExpandsSpec)

/-- 'tidepolelaw08.LayoutDeltas', WHERE WHAT IT READS IS OF BULK AT MOST 1048576: true; the input reads as it did. -/
def layoutDeltasUptoRow : OpenClaim := { program := "ytaenincbmlcjiaa", sum := "50e715b5333c6fa15f5854265e36164d924060dd62054e111df00fd8e2dde6e0", func := "tidepole/tidepolelaw08.LayoutDeltas", spec := "layoutDeltas", unfollowed := true, recurses := true, apart := false, narrowed := true }
def LayoutDeltasUptoSaid : Prop := layoutDeltasUptoRow.holds Try.pinned (OpenSpec.upto layoutDeltasSpec)

/-- 'tidepolelaw08.LayoutCompares', WHERE WHAT IT READS IS OF BULK AT MOST 1048576: true; the input reads as it did. -/
def layoutComparesUptoRow : OpenClaim := { program := "ytaenincbmlcjiaa", sum := "50e715b5333c6fa15f5854265e36164d924060dd62054e111df00fd8e2dde6e0", func := "tidepole/tidepolelaw08.LayoutCompares", spec := "layoutCompares", unfollowed := true, recurses := true, apart := false, narrowed := true }
def LayoutComparesUptoSaid : Prop := layoutComparesUptoRow.holds Try.pinned (OpenSpec.upto layoutComparesSpec)

/-- 'tidepolelaw08.LayoutSelf', WHERE WHAT IT READS IS OF BULK AT MOST 1048576: true; the input reads as it did. -/
def layoutSelfUptoRow : OpenClaim := { program := "ytaenincbmlcjiaa", sum := "50e715b5333c6fa15f5854265e36164d924060dd62054e111df00fd8e2dde6e0", func := "tidepole/tidepolelaw08.LayoutSelf", spec := "layoutSelf", unfollowed := true, recurses := true, apart := false, narrowed := true }
def LayoutSelfUptoSaid : Prop := layoutSelfUptoRow.holds Try.pinned (OpenSpec.upto layoutSelfSpec)

end Rows
end Go.Proofs.Ytaenincbmlcjiaa
