/-
  DERIVED. GIVEN WITH THE SEED: THE CARDS: each row of YtjfekjbmgckkcaaGreatDoorRows.lean that lists a variable, with what it lists TIED to the program's text (the seventh form; the later family's looks); each row that meets fmt, with fmt's text TOLD by the authors' own Lean function (tested against real Go, not proved from fmt's source: count such statements apart). THE CARD IS WHAT COUNTS. Prove the row's statement (the work); the ties are given (YtjfekjbmgckkcaaGreatDoorTie.lean); close each card by the builder's one call (the guide's Derived/Test/ToyasCard.lean, 'card_holds'). Laid BY PROGRAM, IN A SANDBOX (cutbox-door.mjs). By AI agents, Wed Nov 11 2026. No macro, syntax, notation, axiom, sorry.
-/
import Derived.Test.YtjfekjbmgckkcaaGreatDoorRows
import GoSem.ClaimSeven
namespace Go.Proofs.YtjfekjbmgckkcaaGreatDoor
namespace Rows

/-- THE TIED CARD OF 'tidepolelaw14.HeadPuts'. -/
def headPutsCard : Claim7 := { stood := { row := headPutsRow, standIns := [], harness := (true, "ae2e4e061ae03ab1b506768de77db57aa79183feede3bc8ac522da64c9935844"), looks := true }, kinds := [], alts := [], laidByText := true, laidKinds := [.handle, .data], laidTests := true, laidLooks := .later }
def HeadPutsCardSaid : Prop := Claim7.holds Tryz.pinned (.plain (OpenSpec.ofChange headPutsSpec)) headPutsCard

/-- THE TIED CARD OF 'tidepolelaw14.HeadReads'. -/
def headReadsCard : Claim7 := { stood := { row := headReadsRow, standIns := [], harness := (true, "ae2e4e061ae03ab1b506768de77db57aa79183feede3bc8ac522da64c9935844"), looks := true }, kinds := [], alts := [], laidByText := true, laidKinds := [.handle, .data], laidTests := true, laidLooks := .later }
def HeadReadsCardSaid : Prop := Claim7.holds Tryz.pinned (.plain (OpenSpec.ofChange headReadsSpec)) headReadsCard

/-- THE TIED CARD OF 'tidepolelaw18.FchunkMakes'. -/
def fchunkMakesCard : Claim7 := { stood := { row := fchunkMakesRow, standIns := [], harness := (true, "ae2e4e061ae03ab1b506768de77db57aa79183feede3bc8ac522da64c9935844"), looks := true }, kinds := [], alts := [], laidByText := true, laidKinds := [.data, .handle, .data], laidTests := true, laidLooks := .later }
def FchunkMakesCardSaid : Prop := Claim7.holds Tryz.pinned (.plain (OpenSpec.ofChange fchunkMakesSpec)) fchunkMakesCard

/-- THE TIED CARD OF 'tidepolelaw18.FchunkAppends'. -/
def fchunkAppendsCard : Claim7 := { stood := { row := fchunkAppendsRow, standIns := [], harness := (true, "ae2e4e061ae03ab1b506768de77db57aa79183feede3bc8ac522da64c9935844"), looks := true }, kinds := [], alts := [], laidByText := true, laidKinds := [.data, .handle, .data], laidTests := true, laidLooks := .later }
def FchunkAppendsCardSaid : Prop := Claim7.holds Tryz.pinned (.plain (OpenSpec.ofChange fchunkAppendsSpec)) fchunkAppendsCard

/-- THE TIED CARD OF 'tidepolelaw18.FchunkStill'. -/
def fchunkStillCard : Claim7 := { stood := { row := fchunkStillRow, standIns := [], harness := (true, "ae2e4e061ae03ab1b506768de77db57aa79183feede3bc8ac522da64c9935844"), looks := true }, kinds := [], alts := [], laidByText := true, laidKinds := [.data, .handle, .data], laidTests := true, laidLooks := .later }
def FchunkStillCardSaid : Prop := Claim7.holds Tryz.pinned (.plain (OpenSpec.ofChange fchunkStillSpec)) fchunkStillCard

/-- THE TIED CARD OF 'tidepolelaw18.FchunkCopies'. -/
def fchunkCopiesCard : Claim7 := { stood := { row := fchunkCopiesRow, standIns := [], harness := (true, "ae2e4e061ae03ab1b506768de77db57aa79183feede3bc8ac522da64c9935844"), looks := true }, kinds := [], alts := [], laidByText := true, laidKinds := [.data, .handle, .data], laidTests := true, laidLooks := .later }
def FchunkCopiesCardSaid : Prop := Claim7.holds Tryz.pinned (.plain (OpenSpec.ofChange fchunkCopiesSpec)) fchunkCopiesCard

/-- THE TIED CARD OF 'tidepolelaw15.ChunkMakes'. -/
def chunkMakesCard : Claim7 := { stood := { row := chunkMakesRow, standIns := [], harness := (true, "ae2e4e061ae03ab1b506768de77db57aa79183feede3bc8ac522da64c9935844"), looks := true }, kinds := [], alts := [], laidByText := true, laidKinds := [.data, .handle, .data], laidTests := true, laidLooks := .later }
def ChunkMakesCardSaid : Prop := Claim7.holds Tryz.pinned (.plain (OpenSpec.ofChange chunkMakesSpec)) chunkMakesCard

/-- THE TIED CARD OF 'tidepolelaw15.ChunkAppends'. -/
def chunkAppendsCard : Claim7 := { stood := { row := chunkAppendsRow, standIns := [], harness := (true, "ae2e4e061ae03ab1b506768de77db57aa79183feede3bc8ac522da64c9935844"), looks := true }, kinds := [], alts := [], laidByText := true, laidKinds := [.data, .handle, .data], laidTests := true, laidLooks := .later }
def ChunkAppendsCardSaid : Prop := Claim7.holds Tryz.pinned (.plain (OpenSpec.ofChange chunkAppendsSpec)) chunkAppendsCard

/-- THE TIED CARD OF 'tidepolelaw15.ChunkCopies'. -/
def chunkCopiesCard : Claim7 := { stood := { row := chunkCopiesRow, standIns := [], harness := (true, "ae2e4e061ae03ab1b506768de77db57aa79183feede3bc8ac522da64c9935844"), looks := true }, kinds := [], alts := [], laidByText := true, laidKinds := [.data, .handle, .data], laidTests := true, laidLooks := .later }
def ChunkCopiesCardSaid : Prop := Claim7.holds Tryz.pinned (.plain (OpenSpec.ofChange chunkCopiesSpec)) chunkCopiesCard

/-- THE TIED CARD OF 'tidepolelaw15.ChunkSteady'. -/
def chunkSteadyCard : Claim7 := { stood := { row := chunkSteadyRow, standIns := [], harness := (true, "ae2e4e061ae03ab1b506768de77db57aa79183feede3bc8ac522da64c9935844"), looks := true }, kinds := [], alts := [], laidByText := true, laidKinds := [.data, .handle, .data], laidTests := true, laidLooks := .later }
def ChunkSteadyCardSaid : Prop := Claim7.holds Tryz.pinned (.plain (OpenSpec.ofChange chunkSteadySpec)) chunkSteadyCard

/-- THE SECOND FORM's CARD OF 'tidepolelaw14.HeadPuts'. -/
def headPutsUptoCard : Claim7 := { stood := { row := headPutsUptoRow, standIns := [], harness := (true, "ae2e4e061ae03ab1b506768de77db57aa79183feede3bc8ac522da64c9935844"), looks := true }, kinds := [], alts := [], laidByText := true, laidKinds := [.handle, .data], laidTests := true, laidLooks := .later }
def HeadPutsUptoCardSaid : Prop := Claim7.holds Tryz.pinned (.plain (OpenSpec.upto headPutsSpec)) headPutsUptoCard

/-- THE SECOND FORM's CARD OF 'tidepolelaw14.HeadReads'. -/
def headReadsUptoCard : Claim7 := { stood := { row := headReadsUptoRow, standIns := [], harness := (true, "ae2e4e061ae03ab1b506768de77db57aa79183feede3bc8ac522da64c9935844"), looks := true }, kinds := [], alts := [], laidByText := true, laidKinds := [.handle, .data], laidTests := true, laidLooks := .later }
def HeadReadsUptoCardSaid : Prop := Claim7.holds Tryz.pinned (.plain (OpenSpec.upto headReadsSpec)) headReadsUptoCard

/-- THE SECOND FORM's CARD OF 'tidepolelaw18.FchunkMakes'. -/
def fchunkMakesUptoCard : Claim7 := { stood := { row := fchunkMakesUptoRow, standIns := [], harness := (true, "ae2e4e061ae03ab1b506768de77db57aa79183feede3bc8ac522da64c9935844"), looks := true }, kinds := [], alts := [], laidByText := true, laidKinds := [.data, .handle, .data], laidTests := true, laidLooks := .later }
def FchunkMakesUptoCardSaid : Prop := Claim7.holds Tryz.pinned (.plain (OpenSpec.upto fchunkMakesSpec)) fchunkMakesUptoCard

/-- THE SECOND FORM's CARD OF 'tidepolelaw18.FchunkAppends'. -/
def fchunkAppendsUptoCard : Claim7 := { stood := { row := fchunkAppendsUptoRow, standIns := [], harness := (true, "ae2e4e061ae03ab1b506768de77db57aa79183feede3bc8ac522da64c9935844"), looks := true }, kinds := [], alts := [], laidByText := true, laidKinds := [.data, .handle, .data], laidTests := true, laidLooks := .later }
def FchunkAppendsUptoCardSaid : Prop := Claim7.holds Tryz.pinned (.plain (OpenSpec.upto fchunkAppendsSpec)) fchunkAppendsUptoCard

/-- THE SECOND FORM's CARD OF 'tidepolelaw18.FchunkStill'. -/
def fchunkStillUptoCard : Claim7 := { stood := { row := fchunkStillUptoRow, standIns := [], harness := (true, "ae2e4e061ae03ab1b506768de77db57aa79183feede3bc8ac522da64c9935844"), looks := true }, kinds := [], alts := [], laidByText := true, laidKinds := [.data, .handle, .data], laidTests := true, laidLooks := .later }
def FchunkStillUptoCardSaid : Prop := Claim7.holds Tryz.pinned (.plain (OpenSpec.upto fchunkStillSpec)) fchunkStillUptoCard

/-- THE SECOND FORM's CARD OF 'tidepolelaw18.FchunkCopies'. -/
def fchunkCopiesUptoCard : Claim7 := { stood := { row := fchunkCopiesUptoRow, standIns := [], harness := (true, "ae2e4e061ae03ab1b506768de77db57aa79183feede3bc8ac522da64c9935844"), looks := true }, kinds := [], alts := [], laidByText := true, laidKinds := [.data, .handle, .data], laidTests := true, laidLooks := .later }
def FchunkCopiesUptoCardSaid : Prop := Claim7.holds Tryz.pinned (.plain (OpenSpec.upto fchunkCopiesSpec)) fchunkCopiesUptoCard

/-- THE SECOND FORM's CARD OF 'tidepolelaw15.ChunkMakes'. -/
def chunkMakesUptoCard : Claim7 := { stood := { row := chunkMakesUptoRow, standIns := [], harness := (true, "ae2e4e061ae03ab1b506768de77db57aa79183feede3bc8ac522da64c9935844"), looks := true }, kinds := [], alts := [], laidByText := true, laidKinds := [.data, .handle, .data], laidTests := true, laidLooks := .later }
def ChunkMakesUptoCardSaid : Prop := Claim7.holds Tryz.pinned (.plain (OpenSpec.upto chunkMakesSpec)) chunkMakesUptoCard

/-- THE SECOND FORM's CARD OF 'tidepolelaw15.ChunkAppends'. -/
def chunkAppendsUptoCard : Claim7 := { stood := { row := chunkAppendsUptoRow, standIns := [], harness := (true, "ae2e4e061ae03ab1b506768de77db57aa79183feede3bc8ac522da64c9935844"), looks := true }, kinds := [], alts := [], laidByText := true, laidKinds := [.data, .handle, .data], laidTests := true, laidLooks := .later }
def ChunkAppendsUptoCardSaid : Prop := Claim7.holds Tryz.pinned (.plain (OpenSpec.upto chunkAppendsSpec)) chunkAppendsUptoCard

/-- THE SECOND FORM's CARD OF 'tidepolelaw15.ChunkCopies'. -/
def chunkCopiesUptoCard : Claim7 := { stood := { row := chunkCopiesUptoRow, standIns := [], harness := (true, "ae2e4e061ae03ab1b506768de77db57aa79183feede3bc8ac522da64c9935844"), looks := true }, kinds := [], alts := [], laidByText := true, laidKinds := [.data, .handle, .data], laidTests := true, laidLooks := .later }
def ChunkCopiesUptoCardSaid : Prop := Claim7.holds Tryz.pinned (.plain (OpenSpec.upto chunkCopiesSpec)) chunkCopiesUptoCard

/-- THE SECOND FORM's CARD OF 'tidepolelaw15.ChunkSteady'. -/
def chunkSteadyUptoCard : Claim7 := { stood := { row := chunkSteadyUptoRow, standIns := [], harness := (true, "ae2e4e061ae03ab1b506768de77db57aa79183feede3bc8ac522da64c9935844"), looks := true }, kinds := [], alts := [], laidByText := true, laidKinds := [.data, .handle, .data], laidTests := true, laidLooks := .later }
def ChunkSteadyUptoCardSaid : Prop := Claim7.holds Tryz.pinned (.plain (OpenSpec.upto chunkSteadySpec)) chunkSteadyUptoCard
end Rows
end Go.Proofs.YtjfekjbmgckkcaaGreatDoor
