/-
  DERIVED. GIVEN WITH THE SEED: THE CARDS: each row of YtlhnmafnioaojaaDoorRows.lean that lists a variable, with what it lists TIED to the program's text (the seventh form; the later family's looks); each row that meets fmt, with fmt's text TOLD by the authors' own Lean function (tested against real Go, not proved from fmt's source: count such statements apart). THE CARD IS WHAT COUNTS. Prove the row's statement (the work); the ties are given (YtlhnmafnioaojaaDoorTie.lean); close each card by the builder's one call (the guide's Derived/Test/ToyasCard.lean, 'card_holds'). Laid BY PROGRAM, IN A SANDBOX (cutbox-door.mjs). By AI agents, Wed Nov 11 2026. No macro, syntax, notation, axiom, sorry.
-/
import Derived.Test.YtlhnmafnioaojaaDoorRows
import GoSem.ClaimSeven
namespace Go.Proofs.YtlhnmafnioaojaaDoor
namespace Rows

/-- THE TIED CARD OF 'chandlerlaw6.VersionParses'. -/
def versionParsesCard : Claim7 := { stood := { row := versionParsesRow, standIns := [], harness := (true, "3c4b0b7e35971a514605d9190b58508c84ae0a639fb67dcd0adb8754dc6e2f8e"), looks := false }, kinds := [], alts := [], laidByText := true, laidKinds := [.data, .pinned], laidTests := true, laidLooks := .later }
def VersionParsesCardSaid : Prop := Claim7.holds Tryd.pinned (.plain (OpenSpec.ofChange versionParsesSpec)) versionParsesCard

/-- THE TIED CARD OF 'chandlerlaw6.VersionParts'. -/
def versionPartsCard : Claim7 := { stood := { row := versionPartsRow, standIns := [], harness := (true, "3c4b0b7e35971a514605d9190b58508c84ae0a639fb67dcd0adb8754dc6e2f8e"), looks := false }, kinds := [], alts := [], laidByText := true, laidKinds := [.data, .pinned], laidTests := true, laidLooks := .later }
def VersionPartsCardSaid : Prop := Claim7.holds Tryd.pinned (.plain (OpenSpec.ofChange versionPartsSpec)) versionPartsCard

/-- THE TIED CARD OF 'chandlerlaw6.VersionTilde'. -/
def versionTildeCard : Claim7 := { stood := { row := versionTildeRow, standIns := [], harness := (true, "3c4b0b7e35971a514605d9190b58508c84ae0a639fb67dcd0adb8754dc6e2f8e"), looks := false }, kinds := [], alts := [], laidByText := true, laidKinds := [.data, .pinned], laidTests := true, laidLooks := .later }
def VersionTildeCardSaid : Prop := Claim7.holds Tryd.pinned (.plain (OpenSpec.ofChange versionTildeSpec)) versionTildeCard

/-- THE TIED CARD OF 'chandlerlaw6.VersionNoughts'. -/
def versionNoughtsCard : Claim7 := { stood := { row := versionNoughtsRow, standIns := [], harness := (true, "3c4b0b7e35971a514605d9190b58508c84ae0a639fb67dcd0adb8754dc6e2f8e"), looks := false }, kinds := [], alts := [], laidByText := true, laidKinds := [.data, .pinned], laidTests := true, laidLooks := .later }
def VersionNoughtsCardSaid : Prop := Claim7.holds Tryd.pinned (.plain (OpenSpec.ofChange versionNoughtsSpec)) versionNoughtsCard

/-- THE TIED CARD OF 'chandlerlaw6.VersionLong'. -/
def versionLongCard : Claim7 := { stood := { row := versionLongRow, standIns := [], harness := (true, "3c4b0b7e35971a514605d9190b58508c84ae0a639fb67dcd0adb8754dc6e2f8e"), looks := false }, kinds := [], alts := [], laidByText := true, laidKinds := [.data, .pinned], laidTests := true, laidLooks := .later }
def VersionLongCardSaid : Prop := Claim7.holds Tryd.pinned (.plain (OpenSpec.ofChange versionLongSpec)) versionLongCard

/-- THE TIED CARD OF 'chandlerlaw6.VersionOrder'. -/
def versionOrderCard : Claim7 := { stood := { row := versionOrderRow, standIns := [], harness := (true, "3c4b0b7e35971a514605d9190b58508c84ae0a639fb67dcd0adb8754dc6e2f8e"), looks := false }, kinds := [], alts := [], laidByText := true, laidKinds := [.data, .pinned], laidTests := true, laidLooks := .later }
def VersionOrderCardSaid : Prop := Claim7.holds Tryd.pinned (.plain (OpenSpec.ofChange versionOrderSpec)) versionOrderCard

/-- THE TIED CARD OF 'chandlerlaw6.VersionEpochs'. -/
def versionEpochsCard : Claim7 := { stood := { row := versionEpochsRow, standIns := [], harness := (true, "3c4b0b7e35971a514605d9190b58508c84ae0a639fb67dcd0adb8754dc6e2f8e"), looks := false }, kinds := [], alts := [], laidByText := true, laidKinds := [.data, .pinned], laidTests := true, laidLooks := .later }
def VersionEpochsCardSaid : Prop := Claim7.holds Tryd.pinned (.plain (OpenSpec.ofChange versionEpochsSpec)) versionEpochsCard

/-- THE TIED CARD OF 'chandlerlaw6.VersionSigns'. -/
def versionSignsCard : Claim7 := { stood := { row := versionSignsRow, standIns := [], harness := (true, "3c4b0b7e35971a514605d9190b58508c84ae0a639fb67dcd0adb8754dc6e2f8e"), looks := false }, kinds := [], alts := [], laidByText := true, laidKinds := [.data, .pinned], laidTests := true, laidLooks := .later }
def VersionSignsCardSaid : Prop := Claim7.holds Tryd.pinned (.plain (OpenSpec.ofChange versionSignsSpec)) versionSignsCard

/-- THE TIED CARD OF 'chandlerlaw6.VersionHolds'. -/
def versionHoldsCard : Claim7 := { stood := { row := versionHoldsRow, standIns := [], harness := (true, "3c4b0b7e35971a514605d9190b58508c84ae0a639fb67dcd0adb8754dc6e2f8e"), looks := false }, kinds := [], alts := [], laidByText := true, laidKinds := [.data, .pinned], laidTests := true, laidLooks := .later }
def VersionHoldsCardSaid : Prop := Claim7.holds Tryd.pinned (.plain (OpenSpec.ofChange versionHoldsSpec)) versionHoldsCard

/-- THE TIED CARD OF 'chandlerlaw6.VersionCompares'. -/
def versionComparesCard : Claim7 := { stood := { row := versionComparesRow, standIns := [], harness := (true, "3c4b0b7e35971a514605d9190b58508c84ae0a639fb67dcd0adb8754dc6e2f8e"), looks := false }, kinds := [], alts := [], laidByText := true, laidKinds := [.data, .pinned], laidTests := true, laidLooks := .later }
def VersionComparesCardSaid : Prop := Claim7.holds Tryd.pinned (.plain (OpenSpec.ofChange versionComparesSpec)) versionComparesCard

/-- THE SECOND FORM's CARD OF 'chandlerlaw6.VersionParses'. -/
def versionParsesUptoCard : Claim7 := { stood := { row := versionParsesUptoRow, standIns := [], harness := (true, "3c4b0b7e35971a514605d9190b58508c84ae0a639fb67dcd0adb8754dc6e2f8e"), looks := false }, kinds := [], alts := [], laidByText := true, laidKinds := [.data, .pinned], laidTests := true, laidLooks := .later }
def VersionParsesUptoCardSaid : Prop := Claim7.holds Tryd.pinned (.plain (OpenSpec.upto versionParsesSpec)) versionParsesUptoCard

/-- THE SECOND FORM's CARD OF 'chandlerlaw6.VersionParts'. -/
def versionPartsUptoCard : Claim7 := { stood := { row := versionPartsUptoRow, standIns := [], harness := (true, "3c4b0b7e35971a514605d9190b58508c84ae0a639fb67dcd0adb8754dc6e2f8e"), looks := false }, kinds := [], alts := [], laidByText := true, laidKinds := [.data, .pinned], laidTests := true, laidLooks := .later }
def VersionPartsUptoCardSaid : Prop := Claim7.holds Tryd.pinned (.plain (OpenSpec.upto versionPartsSpec)) versionPartsUptoCard

/-- THE SECOND FORM's CARD OF 'chandlerlaw6.VersionTilde'. -/
def versionTildeUptoCard : Claim7 := { stood := { row := versionTildeUptoRow, standIns := [], harness := (true, "3c4b0b7e35971a514605d9190b58508c84ae0a639fb67dcd0adb8754dc6e2f8e"), looks := false }, kinds := [], alts := [], laidByText := true, laidKinds := [.data, .pinned], laidTests := true, laidLooks := .later }
def VersionTildeUptoCardSaid : Prop := Claim7.holds Tryd.pinned (.plain (OpenSpec.upto versionTildeSpec)) versionTildeUptoCard

/-- THE SECOND FORM's CARD OF 'chandlerlaw6.VersionNoughts'. -/
def versionNoughtsUptoCard : Claim7 := { stood := { row := versionNoughtsUptoRow, standIns := [], harness := (true, "3c4b0b7e35971a514605d9190b58508c84ae0a639fb67dcd0adb8754dc6e2f8e"), looks := false }, kinds := [], alts := [], laidByText := true, laidKinds := [.data, .pinned], laidTests := true, laidLooks := .later }
def VersionNoughtsUptoCardSaid : Prop := Claim7.holds Tryd.pinned (.plain (OpenSpec.upto versionNoughtsSpec)) versionNoughtsUptoCard

/-- THE SECOND FORM's CARD OF 'chandlerlaw6.VersionLong'. -/
def versionLongUptoCard : Claim7 := { stood := { row := versionLongUptoRow, standIns := [], harness := (true, "3c4b0b7e35971a514605d9190b58508c84ae0a639fb67dcd0adb8754dc6e2f8e"), looks := false }, kinds := [], alts := [], laidByText := true, laidKinds := [.data, .pinned], laidTests := true, laidLooks := .later }
def VersionLongUptoCardSaid : Prop := Claim7.holds Tryd.pinned (.plain (OpenSpec.upto versionLongSpec)) versionLongUptoCard

/-- THE SECOND FORM's CARD OF 'chandlerlaw6.VersionOrder'. -/
def versionOrderUptoCard : Claim7 := { stood := { row := versionOrderUptoRow, standIns := [], harness := (true, "3c4b0b7e35971a514605d9190b58508c84ae0a639fb67dcd0adb8754dc6e2f8e"), looks := false }, kinds := [], alts := [], laidByText := true, laidKinds := [.data, .pinned], laidTests := true, laidLooks := .later }
def VersionOrderUptoCardSaid : Prop := Claim7.holds Tryd.pinned (.plain (OpenSpec.upto versionOrderSpec)) versionOrderUptoCard

/-- THE SECOND FORM's CARD OF 'chandlerlaw6.VersionEpochs'. -/
def versionEpochsUptoCard : Claim7 := { stood := { row := versionEpochsUptoRow, standIns := [], harness := (true, "3c4b0b7e35971a514605d9190b58508c84ae0a639fb67dcd0adb8754dc6e2f8e"), looks := false }, kinds := [], alts := [], laidByText := true, laidKinds := [.data, .pinned], laidTests := true, laidLooks := .later }
def VersionEpochsUptoCardSaid : Prop := Claim7.holds Tryd.pinned (.plain (OpenSpec.upto versionEpochsSpec)) versionEpochsUptoCard

/-- THE SECOND FORM's CARD OF 'chandlerlaw6.VersionSigns'. -/
def versionSignsUptoCard : Claim7 := { stood := { row := versionSignsUptoRow, standIns := [], harness := (true, "3c4b0b7e35971a514605d9190b58508c84ae0a639fb67dcd0adb8754dc6e2f8e"), looks := false }, kinds := [], alts := [], laidByText := true, laidKinds := [.data, .pinned], laidTests := true, laidLooks := .later }
def VersionSignsUptoCardSaid : Prop := Claim7.holds Tryd.pinned (.plain (OpenSpec.upto versionSignsSpec)) versionSignsUptoCard

/-- THE SECOND FORM's CARD OF 'chandlerlaw6.VersionHolds'. -/
def versionHoldsUptoCard : Claim7 := { stood := { row := versionHoldsUptoRow, standIns := [], harness := (true, "3c4b0b7e35971a514605d9190b58508c84ae0a639fb67dcd0adb8754dc6e2f8e"), looks := false }, kinds := [], alts := [], laidByText := true, laidKinds := [.data, .pinned], laidTests := true, laidLooks := .later }
def VersionHoldsUptoCardSaid : Prop := Claim7.holds Tryd.pinned (.plain (OpenSpec.upto versionHoldsSpec)) versionHoldsUptoCard

/-- THE SECOND FORM's CARD OF 'chandlerlaw6.VersionCompares'. -/
def versionComparesUptoCard : Claim7 := { stood := { row := versionComparesUptoRow, standIns := [], harness := (true, "3c4b0b7e35971a514605d9190b58508c84ae0a639fb67dcd0adb8754dc6e2f8e"), looks := false }, kinds := [], alts := [], laidByText := true, laidKinds := [.data, .pinned], laidTests := true, laidLooks := .later }
def VersionComparesUptoCardSaid : Prop := Claim7.holds Tryd.pinned (.plain (OpenSpec.upto versionComparesSpec)) versionComparesUptoCard
end Rows
end Go.Proofs.YtlhnmafnioaojaaDoor
