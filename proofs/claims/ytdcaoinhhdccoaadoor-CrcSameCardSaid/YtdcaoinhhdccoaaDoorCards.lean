/-
  DERIVED. GIVEN WITH THE SEED: THE CARDS: each row of YtdcaoinhhdccoaaDoorRows.lean that lists a variable, with what it lists TIED to the program's text (the seventh form; the later family's looks); each row that meets fmt, with fmt's text TOLD by the authors' own Lean function (tested against real Go, not proved from fmt's source: count such statements apart). THE CARD IS WHAT COUNTS. Prove the row's statement (the work); the ties are given (YtdcaoinhhdccoaaDoorTie.lean); close each card by the builder's one call (the guide's Derived/Test/ToyasCard.lean, 'card_holds'). Laid BY PROGRAM, IN A SANDBOX (cutbox-door.mjs). By AI agents, Wed Nov 11 2026. No macro, syntax, notation, axiom, sorry.
-/
import Derived.Test.YtdcaoinhhdccoaaDoorRows
import GoSem.ClaimSeven
namespace Go.Proofs.YtdcaoinhhdccoaaDoor
namespace Rows

/-- THE TIED CARD OF 'tidepolelaw23.CrcSums'. -/
def crcSumsCard : Claim7 := { stood := { row := crcSumsRow, standIns := [], harness := (true, "07e25e259b73294cb76d71edd679b0c1ba849d92cf2549d2d12ba08baf34c629"), looks := false }, kinds := [], alts := [], laidByText := true, laidKinds := [.data], laidTests := true, laidLooks := .later }
def CrcSumsCardSaid : Prop := Claim7.holds Tryd.pinned (.plain (OpenSpec.ofChange crcSumsSpec)) crcSumsCard

/-- THE TIED CARD OF 'tidepolelaw23.CrcSeals'. -/
def crcSealsCard : Claim7 := { stood := { row := crcSealsRow, standIns := [], harness := (true, "07e25e259b73294cb76d71edd679b0c1ba849d92cf2549d2d12ba08baf34c629"), looks := false }, kinds := [], alts := [], laidByText := true, laidKinds := [.data], laidTests := true, laidLooks := .later }
def CrcSealsCardSaid : Prop := Claim7.holds Tryd.pinned (.plain (OpenSpec.ofChange crcSealsSpec)) crcSealsCard

/-- THE TIED CARD OF 'tidepolelaw23.CrcTurns'. -/
def crcTurnsCard : Claim7 := { stood := { row := crcTurnsRow, standIns := [], harness := (true, "07e25e259b73294cb76d71edd679b0c1ba849d92cf2549d2d12ba08baf34c629"), looks := false }, kinds := [], alts := [], laidByText := true, laidKinds := [.data], laidTests := true, laidLooks := .later }
def CrcTurnsCardSaid : Prop := Claim7.holds Tryd.pinned (.plain (OpenSpec.ofChange crcTurnsSpec)) crcTurnsCard

/-- THE TIED CARD OF 'tidepolelaw23.CrcBursts'. -/
def crcBurstsCard : Claim7 := { stood := { row := crcBurstsRow, standIns := [], harness := (true, "07e25e259b73294cb76d71edd679b0c1ba849d92cf2549d2d12ba08baf34c629"), looks := false }, kinds := [], alts := [], laidByText := true, laidKinds := [.data], laidTests := true, laidLooks := .later }
def CrcBurstsCardSaid : Prop := Claim7.holds Tryd.pinned (.plain (OpenSpec.ofChange crcBurstsSpec)) crcBurstsCard

/-- THE TIED CARD OF 'tidepolelaw23.CrcSpoils'. -/
def crcSpoilsCard : Claim7 := { stood := { row := crcSpoilsRow, standIns := [], harness := (true, "07e25e259b73294cb76d71edd679b0c1ba849d92cf2549d2d12ba08baf34c629"), looks := false }, kinds := [], alts := [], laidByText := true, laidKinds := [.data], laidTests := true, laidLooks := .later }
def CrcSpoilsCardSaid : Prop := Claim7.holds Tryd.pinned (.plain (OpenSpec.ofChange crcSpoilsSpec)) crcSpoilsCard

/-- THE TIED CARD OF 'tidepolelaw23.CrcSame'. -/
def crcSameCard : Claim7 := { stood := { row := crcSameRow, standIns := [], harness := (true, "07e25e259b73294cb76d71edd679b0c1ba849d92cf2549d2d12ba08baf34c629"), looks := false }, kinds := [], alts := [], laidByText := true, laidKinds := [.data], laidTests := true, laidLooks := .later }
def CrcSameCardSaid : Prop := Claim7.holds Tryd.pinned (.plain (OpenSpec.ofChange crcSameSpec)) crcSameCard

/-- THE TIED CARD OF 'tidepolelaw23.CrcRest'. -/
def crcRestCard : Claim7 := { stood := { row := crcRestRow, standIns := [], harness := (true, "07e25e259b73294cb76d71edd679b0c1ba849d92cf2549d2d12ba08baf34c629"), looks := false }, kinds := [], alts := [], laidByText := true, laidKinds := [.data], laidTests := true, laidLooks := .later }
def CrcRestCardSaid : Prop := Claim7.holds Tryd.pinned (.plain (OpenSpec.ofChange crcRestSpec)) crcRestCard

/-- THE SECOND FORM's CARD OF 'tidepolelaw23.CrcSums'. -/
def crcSumsUptoCard : Claim7 := { stood := { row := crcSumsUptoRow, standIns := [], harness := (true, "07e25e259b73294cb76d71edd679b0c1ba849d92cf2549d2d12ba08baf34c629"), looks := false }, kinds := [], alts := [], laidByText := true, laidKinds := [.data], laidTests := true, laidLooks := .later }
def CrcSumsUptoCardSaid : Prop := Claim7.holds Tryd.pinned (.plain (OpenSpec.upto crcSumsSpec)) crcSumsUptoCard

/-- THE SECOND FORM's CARD OF 'tidepolelaw23.CrcSeals'. -/
def crcSealsUptoCard : Claim7 := { stood := { row := crcSealsUptoRow, standIns := [], harness := (true, "07e25e259b73294cb76d71edd679b0c1ba849d92cf2549d2d12ba08baf34c629"), looks := false }, kinds := [], alts := [], laidByText := true, laidKinds := [.data], laidTests := true, laidLooks := .later }
def CrcSealsUptoCardSaid : Prop := Claim7.holds Tryd.pinned (.plain (OpenSpec.upto crcSealsSpec)) crcSealsUptoCard

/-- THE SECOND FORM's CARD OF 'tidepolelaw23.CrcTurns'. -/
def crcTurnsUptoCard : Claim7 := { stood := { row := crcTurnsUptoRow, standIns := [], harness := (true, "07e25e259b73294cb76d71edd679b0c1ba849d92cf2549d2d12ba08baf34c629"), looks := false }, kinds := [], alts := [], laidByText := true, laidKinds := [.data], laidTests := true, laidLooks := .later }
def CrcTurnsUptoCardSaid : Prop := Claim7.holds Tryd.pinned (.plain (OpenSpec.upto crcTurnsSpec)) crcTurnsUptoCard

/-- THE SECOND FORM's CARD OF 'tidepolelaw23.CrcBursts'. -/
def crcBurstsUptoCard : Claim7 := { stood := { row := crcBurstsUptoRow, standIns := [], harness := (true, "07e25e259b73294cb76d71edd679b0c1ba849d92cf2549d2d12ba08baf34c629"), looks := false }, kinds := [], alts := [], laidByText := true, laidKinds := [.data], laidTests := true, laidLooks := .later }
def CrcBurstsUptoCardSaid : Prop := Claim7.holds Tryd.pinned (.plain (OpenSpec.upto crcBurstsSpec)) crcBurstsUptoCard

/-- THE SECOND FORM's CARD OF 'tidepolelaw23.CrcSpoils'. -/
def crcSpoilsUptoCard : Claim7 := { stood := { row := crcSpoilsUptoRow, standIns := [], harness := (true, "07e25e259b73294cb76d71edd679b0c1ba849d92cf2549d2d12ba08baf34c629"), looks := false }, kinds := [], alts := [], laidByText := true, laidKinds := [.data], laidTests := true, laidLooks := .later }
def CrcSpoilsUptoCardSaid : Prop := Claim7.holds Tryd.pinned (.plain (OpenSpec.upto crcSpoilsSpec)) crcSpoilsUptoCard

/-- THE SECOND FORM's CARD OF 'tidepolelaw23.CrcSame'. -/
def crcSameUptoCard : Claim7 := { stood := { row := crcSameUptoRow, standIns := [], harness := (true, "07e25e259b73294cb76d71edd679b0c1ba849d92cf2549d2d12ba08baf34c629"), looks := false }, kinds := [], alts := [], laidByText := true, laidKinds := [.data], laidTests := true, laidLooks := .later }
def CrcSameUptoCardSaid : Prop := Claim7.holds Tryd.pinned (.plain (OpenSpec.upto crcSameSpec)) crcSameUptoCard

/-- THE SECOND FORM's CARD OF 'tidepolelaw23.CrcRest'. -/
def crcRestUptoCard : Claim7 := { stood := { row := crcRestUptoRow, standIns := [], harness := (true, "07e25e259b73294cb76d71edd679b0c1ba849d92cf2549d2d12ba08baf34c629"), looks := false }, kinds := [], alts := [], laidByText := true, laidKinds := [.data], laidTests := true, laidLooks := .later }
def CrcRestUptoCardSaid : Prop := Claim7.holds Tryd.pinned (.plain (OpenSpec.upto crcRestSpec)) crcRestUptoCard
end Rows
end Go.Proofs.YtdcaoinhhdccoaaDoor
