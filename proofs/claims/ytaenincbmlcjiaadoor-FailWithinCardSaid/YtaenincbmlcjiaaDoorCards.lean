/-
  DERIVED. GIVEN WITH THE SEED: THE CARDS: each row of YtaenincbmlcjiaaDoorRows.lean that lists a variable, with what it lists TIED to the program's text (the seventh form; the later family's looks); each row that meets fmt, with fmt's text TOLD by the authors' own Lean function (tested against real Go, not proved from fmt's source: count such statements apart). THE CARD IS WHAT COUNTS. Prove the row's statement (the work); the ties are given (YtaenincbmlcjiaaDoorTie.lean); close each card by the builder's one call (the guide's Derived/Test/ToyasCard.lean, 'card_holds'). Laid BY PROGRAM, IN A SANDBOX (cutbox-door.mjs). By AI agents, Wed Nov 11 2026. No macro, syntax, notation, axiom, sorry.
-/
import Derived.Test.YtaenincbmlcjiaaDoorRows
import GoSem.ClaimSeven
namespace Go.Proofs.YtaenincbmlcjiaaDoor
namespace Rows

/-- THE TIED CARD OF 'tidepolelaw02.FailWraps'. -/
def failWrapsCard : Claim7 := { stood := { row := failWrapsRow, standIns := [], harness := (true, "e1313e31e0b3e15ea9f307534ea037feef594db9b8fac1df42a565668ad57000"), looks := true }, kinds := [], alts := [], laidByText := true, laidKinds := [.data, .data, .data, .handle, .sentinel], laidTests := true, laidLooks := .later }
def FailWrapsCardSaid : Prop := Claim7.holds Tryd.pinned (.plain (OpenSpec.ofChange failWrapsSpec)) failWrapsCard

/-- THE TIED CARD OF 'tidepolelaw02.FailCloses'. -/
def failClosesCard : Claim7 := { stood := { row := failClosesRow, standIns := [], harness := (true, "e1313e31e0b3e15ea9f307534ea037feef594db9b8fac1df42a565668ad57000"), looks := true }, kinds := [], alts := [], laidByText := true, laidKinds := [.data, .data, .data, .handle, .sentinel], laidTests := true, laidLooks := .later }
def FailClosesCardSaid : Prop := Claim7.holds Tryd.pinned (.plain (OpenSpec.ofChange failClosesSpec)) failClosesCard

/-- THE TIED CARD OF 'tidepolelaw02.FailWithin'. -/
def failWithinCard : Claim7 := { stood := { row := failWithinRow, standIns := [], harness := (true, "e1313e31e0b3e15ea9f307534ea037feef594db9b8fac1df42a565668ad57000"), looks := true }, kinds := [], alts := [], laidByText := true, laidKinds := [.data, .data, .data, .handle, .sentinel], laidTests := true, laidLooks := .later }
def FailWithinCardSaid : Prop := Claim7.holds Tryd.pinned (.plain (OpenSpec.ofChange failWithinSpec)) failWithinCard

/-- THE SECOND FORM's CARD OF 'tidepolelaw02.FailWraps'. -/
def failWrapsUptoCard : Claim7 := { stood := { row := failWrapsUptoRow, standIns := [], harness := (true, "e1313e31e0b3e15ea9f307534ea037feef594db9b8fac1df42a565668ad57000"), looks := true }, kinds := [], alts := [], laidByText := true, laidKinds := [.data, .data, .data, .handle, .sentinel], laidTests := true, laidLooks := .later }
def FailWrapsUptoCardSaid : Prop := Claim7.holds Tryd.pinned (.plain (OpenSpec.upto failWrapsSpec)) failWrapsUptoCard

/-- THE SECOND FORM's CARD OF 'tidepolelaw02.FailCloses'. -/
def failClosesUptoCard : Claim7 := { stood := { row := failClosesUptoRow, standIns := [], harness := (true, "e1313e31e0b3e15ea9f307534ea037feef594db9b8fac1df42a565668ad57000"), looks := true }, kinds := [], alts := [], laidByText := true, laidKinds := [.data, .data, .data, .handle, .sentinel], laidTests := true, laidLooks := .later }
def FailClosesUptoCardSaid : Prop := Claim7.holds Tryd.pinned (.plain (OpenSpec.upto failClosesSpec)) failClosesUptoCard

/-- THE SECOND FORM's CARD OF 'tidepolelaw02.FailWithin'. -/
def failWithinUptoCard : Claim7 := { stood := { row := failWithinUptoRow, standIns := [], harness := (true, "e1313e31e0b3e15ea9f307534ea037feef594db9b8fac1df42a565668ad57000"), looks := true }, kinds := [], alts := [], laidByText := true, laidKinds := [.data, .data, .data, .handle, .sentinel], laidTests := true, laidLooks := .later }
def FailWithinUptoCardSaid : Prop := Claim7.holds Tryd.pinned (.plain (OpenSpec.upto failWithinSpec)) failWithinUptoCard
end Rows
end Go.Proofs.YtaenincbmlcjiaaDoor
