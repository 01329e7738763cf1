/-
  DERIVED. GIVEN WITH THE SEED: THE CARDS: each row of YtjfekjbmgckkcaaDoorRows.lean that lists a variable, with what it lists TIED to the program's text (the seventh form; the later family's looks); each row that meets fmt, with fmt's text TOLD by the authors' own Lean function (tested against real Go, not proved from fmt's source: count such statements apart). THE CARD IS WHAT COUNTS. Prove the row's statement (the work); the ties are given (YtjfekjbmgckkcaaDoorTie.lean); close each card by the builder's one call (the guide's Derived/Test/ToyasCard.lean, 'card_holds'). Laid BY PROGRAM, IN A SANDBOX (cutbox-door.mjs). By AI agents, Wed Nov 11 2026. No macro, syntax, notation, axiom, sorry.
-/
import Derived.Test.YtjfekjbmgckkcaaDoorRows
import GoSem.ClaimSeven
namespace Go.Proofs.YtjfekjbmgckkcaaDoor
namespace Rows

/-- THE TIED CARD OF 'tidepolelaw14.HeadBack'. -/
def headBackCard : Claim7 := { stood := { row := headBackRow, standIns := [], harness := (true, "357d747bce091ce9f02f61397795437c740310d137191a20cde20936ff7ad05c"), looks := true }, kinds := [], alts := [], laidByText := true, laidKinds := [.handle, .data], laidTests := true, laidLooks := .later }
def HeadBackCardSaid : Prop := Claim7.holds Tryd.pinned (.plain (OpenSpec.ofChange headBackSpec)) headBackCard

/-- THE TIED CARD OF 'tidepolelaw14.HeadChecks'. -/
def headChecksCard : Claim7 := { stood := { row := headChecksRow, standIns := [], harness := (true, "357d747bce091ce9f02f61397795437c740310d137191a20cde20936ff7ad05c"), looks := true }, kinds := [], alts := [], laidByText := true, laidKinds := [.handle, .data], laidTests := true, laidLooks := .later }
def HeadChecksCardSaid : Prop := Claim7.holds Tryd.pinned (.plain (OpenSpec.ofChange headChecksSpec)) headChecksCard

/-- THE SECOND FORM's CARD OF 'tidepolelaw14.HeadBack'. -/
def headBackUptoCard : Claim7 := { stood := { row := headBackUptoRow, standIns := [], harness := (true, "357d747bce091ce9f02f61397795437c740310d137191a20cde20936ff7ad05c"), looks := true }, kinds := [], alts := [], laidByText := true, laidKinds := [.handle, .data], laidTests := true, laidLooks := .later }
def HeadBackUptoCardSaid : Prop := Claim7.holds Tryd.pinned (.plain (OpenSpec.upto headBackSpec)) headBackUptoCard

/-- THE SECOND FORM's CARD OF 'tidepolelaw14.HeadChecks'. -/
def headChecksUptoCard : Claim7 := { stood := { row := headChecksUptoRow, standIns := [], harness := (true, "357d747bce091ce9f02f61397795437c740310d137191a20cde20936ff7ad05c"), looks := true }, kinds := [], alts := [], laidByText := true, laidKinds := [.handle, .data], laidTests := true, laidLooks := .later }
def HeadChecksUptoCardSaid : Prop := Claim7.holds Tryd.pinned (.plain (OpenSpec.upto headChecksSpec)) headChecksUptoCard
end Rows
end Go.Proofs.YtjfekjbmgckkcaaDoor
