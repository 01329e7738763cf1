/-
  DERIVED. GIVEN WITH THE SEED: THE CARDS: each row of YtlbkdmggafkghaaDoorRows.lean that lists a variable, with what it lists TIED to the program's text (the seventh form; the later family's looks); each row that meets fmt, with fmt's text TOLD by the authors' own Lean function (tested against real Go, not proved from fmt's source: count such statements apart). THE CARD IS WHAT COUNTS. Prove the row's statement (the work); the ties are given (YtlbkdmggafkghaaDoorTie.lean); close each card by the builder's one call (the guide's Derived/Test/ToyasCard.lean, 'card_holds'). Laid BY PROGRAM, IN A SANDBOX (cutbox-door.mjs). By AI agents, Wed Nov 11 2026. No macro, syntax, notation, axiom, sorry.
-/
import Derived.Test.YtlbkdmggafkghaaDoorRows
import GoSem.ClaimSeven
namespace Go.Proofs.YtlbkdmggafkghaaDoor
namespace Rows

/-- THE TIED CARD OF 'tidepolelaw04.VarbitPuts'. -/
def varbitPutsCard : Claim7 := { stood := { row := varbitPutsRow, standIns := [], harness := (true, "70c7518f421a5c39e7ec0453f506b9d533943d44409a9cc4cde6e9b7158511d9"), looks := false }, kinds := [], alts := [], laidByText := true, laidKinds := [.data], laidTests := true, laidLooks := .later }
def VarbitPutsCardSaid : Prop := Claim7.holds Tryd.pinned (.plain (OpenSpec.ofChange varbitPutsSpec)) varbitPutsCard

/-- THE TIED CARD OF 'tidepolelaw04.VarbitReads'. -/
def varbitReadsCard : Claim7 := { stood := { row := varbitReadsRow, standIns := [], harness := (true, "70c7518f421a5c39e7ec0453f506b9d533943d44409a9cc4cde6e9b7158511d9"), looks := false }, kinds := [], alts := [], laidByText := true, laidKinds := [.data], laidTests := true, laidLooks := .later }
def VarbitReadsCardSaid : Prop := Claim7.holds Tryd.pinned (.plain (OpenSpec.ofChange varbitReadsSpec)) varbitReadsCard

/-- THE TIED CARD OF 'tidepolelaw04.VarbitRows'. -/
def varbitRowsCard : Claim7 := { stood := { row := varbitRowsRow, standIns := [], harness := (true, "70c7518f421a5c39e7ec0453f506b9d533943d44409a9cc4cde6e9b7158511d9"), looks := false }, kinds := [], alts := [], laidByText := true, laidKinds := [.data], laidTests := true, laidLooks := .later }
def VarbitRowsCardSaid : Prop := Claim7.holds Tryd.pinned (.plain (OpenSpec.ofChange varbitRowsSpec)) varbitRowsCard

/-- THE TIED CARD OF 'tidepolelaw04.VarbitGrows'. -/
def varbitGrowsCard : Claim7 := { stood := { row := varbitGrowsRow, standIns := [], harness := (true, "70c7518f421a5c39e7ec0453f506b9d533943d44409a9cc4cde6e9b7158511d9"), looks := false }, kinds := [], alts := [], laidByText := true, laidKinds := [.data], laidTests := true, laidLooks := .later }
def VarbitGrowsCardSaid : Prop := Claim7.holds Tryd.pinned (.plain (OpenSpec.ofChange varbitGrowsSpec)) varbitGrowsCard

/-- THE TIED CARD OF 'tidepolelaw13.TimesReads'. -/
def timesReadsCard : Claim7 := { stood := { row := timesReadsRow, standIns := [], harness := (true, "70c7518f421a5c39e7ec0453f506b9d533943d44409a9cc4cde6e9b7158511d9"), looks := false }, kinds := [], alts := [], laidByText := true, laidKinds := [.data], laidTests := true, laidLooks := .later }
def TimesReadsCardSaid : Prop := Claim7.holds Tryd.pinned (.plain (OpenSpec.ofChange timesReadsSpec)) timesReadsCard

/-- THE TIED CARD OF 'tidepolelaw13.TimesEven'. -/
def timesEvenCard : Claim7 := { stood := { row := timesEvenRow, standIns := [], harness := (true, "70c7518f421a5c39e7ec0453f506b9d533943d44409a9cc4cde6e9b7158511d9"), looks := false }, kinds := [], alts := [], laidByText := true, laidKinds := [.data], laidTests := true, laidLooks := .later }
def TimesEvenCardSaid : Prop := Claim7.holds Tryd.pinned (.plain (OpenSpec.ofChange timesEvenSpec)) timesEvenCard

/-- THE TIED CARD OF 'tidepolelaw13.TimesRound'. -/
def timesRoundCard : Claim7 := { stood := { row := timesRoundRow, standIns := [], harness := (true, "70c7518f421a5c39e7ec0453f506b9d533943d44409a9cc4cde6e9b7158511d9"), looks := false }, kinds := [], alts := [], laidByText := true, laidKinds := [.data], laidTests := true, laidLooks := .later }
def TimesRoundCardSaid : Prop := Claim7.holds Tryd.pinned (.plain (OpenSpec.ofChange timesRoundSpec)) timesRoundCard

/-- THE TIED CARD OF 'tidepolelaw13.TimesPuts'. -/
def timesPutsCard : Claim7 := { stood := { row := timesPutsRow, standIns := [], harness := (true, "70c7518f421a5c39e7ec0453f506b9d533943d44409a9cc4cde6e9b7158511d9"), looks := false }, kinds := [], alts := [], laidByText := true, laidKinds := [.data], laidTests := true, laidLooks := .later }
def TimesPutsCardSaid : Prop := Claim7.holds Tryd.pinned (.plain (OpenSpec.ofChange timesPutsSpec)) timesPutsCard

/-- THE SECOND FORM's CARD OF 'tidepolelaw04.VarbitPuts'. -/
def varbitPutsUptoCard : Claim7 := { stood := { row := varbitPutsUptoRow, standIns := [], harness := (true, "70c7518f421a5c39e7ec0453f506b9d533943d44409a9cc4cde6e9b7158511d9"), looks := false }, kinds := [], alts := [], laidByText := true, laidKinds := [.data], laidTests := true, laidLooks := .later }
def VarbitPutsUptoCardSaid : Prop := Claim7.holds Tryd.pinned (.plain (OpenSpec.upto varbitPutsSpec)) varbitPutsUptoCard

/-- THE SECOND FORM's CARD OF 'tidepolelaw04.VarbitReads'. -/
def varbitReadsUptoCard : Claim7 := { stood := { row := varbitReadsUptoRow, standIns := [], harness := (true, "70c7518f421a5c39e7ec0453f506b9d533943d44409a9cc4cde6e9b7158511d9"), looks := false }, kinds := [], alts := [], laidByText := true, laidKinds := [.data], laidTests := true, laidLooks := .later }
def VarbitReadsUptoCardSaid : Prop := Claim7.holds Tryd.pinned (.plain (OpenSpec.upto varbitReadsSpec)) varbitReadsUptoCard

/-- THE SECOND FORM's CARD OF 'tidepolelaw04.VarbitRows'. -/
def varbitRowsUptoCard : Claim7 := { stood := { row := varbitRowsUptoRow, standIns := [], harness := (true, "70c7518f421a5c39e7ec0453f506b9d533943d44409a9cc4cde6e9b7158511d9"), looks := false }, kinds := [], alts := [], laidByText := true, laidKinds := [.data], laidTests := true, laidLooks := .later }
def VarbitRowsUptoCardSaid : Prop := Claim7.holds Tryd.pinned (.plain (OpenSpec.upto varbitRowsSpec)) varbitRowsUptoCard

/-- THE SECOND FORM's CARD OF 'tidepolelaw04.VarbitGrows'. -/
def varbitGrowsUptoCard : Claim7 := { stood := { row := varbitGrowsUptoRow, standIns := [], harness := (true, "70c7518f421a5c39e7ec0453f506b9d533943d44409a9cc4cde6e9b7158511d9"), looks := false }, kinds := [], alts := [], laidByText := true, laidKinds := [.data], laidTests := true, laidLooks := .later }
def VarbitGrowsUptoCardSaid : Prop := Claim7.holds Tryd.pinned (.plain (OpenSpec.upto varbitGrowsSpec)) varbitGrowsUptoCard

/-- THE SECOND FORM's CARD OF 'tidepolelaw13.TimesReads'. -/
def timesReadsUptoCard : Claim7 := { stood := { row := timesReadsUptoRow, standIns := [], harness := (true, "70c7518f421a5c39e7ec0453f506b9d533943d44409a9cc4cde6e9b7158511d9"), looks := false }, kinds := [], alts := [], laidByText := true, laidKinds := [.data], laidTests := true, laidLooks := .later }
def TimesReadsUptoCardSaid : Prop := Claim7.holds Tryd.pinned (.plain (OpenSpec.upto timesReadsSpec)) timesReadsUptoCard

/-- THE SECOND FORM's CARD OF 'tidepolelaw13.TimesEven'. -/
def timesEvenUptoCard : Claim7 := { stood := { row := timesEvenUptoRow, standIns := [], harness := (true, "70c7518f421a5c39e7ec0453f506b9d533943d44409a9cc4cde6e9b7158511d9"), looks := false }, kinds := [], alts := [], laidByText := true, laidKinds := [.data], laidTests := true, laidLooks := .later }
def TimesEvenUptoCardSaid : Prop := Claim7.holds Tryd.pinned (.plain (OpenSpec.upto timesEvenSpec)) timesEvenUptoCard

/-- THE SECOND FORM's CARD OF 'tidepolelaw13.TimesRound'. -/
def timesRoundUptoCard : Claim7 := { stood := { row := timesRoundUptoRow, standIns := [], harness := (true, "70c7518f421a5c39e7ec0453f506b9d533943d44409a9cc4cde6e9b7158511d9"), looks := false }, kinds := [], alts := [], laidByText := true, laidKinds := [.data], laidTests := true, laidLooks := .later }
def TimesRoundUptoCardSaid : Prop := Claim7.holds Tryd.pinned (.plain (OpenSpec.upto timesRoundSpec)) timesRoundUptoCard

/-- THE SECOND FORM's CARD OF 'tidepolelaw13.TimesPuts'. -/
def timesPutsUptoCard : Claim7 := { stood := { row := timesPutsUptoRow, standIns := [], harness := (true, "70c7518f421a5c39e7ec0453f506b9d533943d44409a9cc4cde6e9b7158511d9"), looks := false }, kinds := [], alts := [], laidByText := true, laidKinds := [.data], laidTests := true, laidLooks := .later }
def TimesPutsUptoCardSaid : Prop := Claim7.holds Tryd.pinned (.plain (OpenSpec.upto timesPutsSpec)) timesPutsUptoCard
end Rows
end Go.Proofs.YtlbkdmggafkghaaDoor
