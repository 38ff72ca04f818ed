/-
  DERIVED. GIVEN WITH THE SEED: THE CARDS: each row of YtflmocamfedbdaaGreatDoorRows.lean that lists a variable, with what it lists TIED to the program's text (the seventh form; the later family's looks); each row that meets fmt, with fmt's text TOLD by the authors' own Lean function (tested against real Go, not proved from fmt's source: count such statements apart). THE CARD IS WHAT COUNTS. Prove the row's statement (the work); the ties are given (YtflmocamfedbdaaGreatDoorTie.lean); close each card by the builder's one call (the guide's Derived/Test/ToyasCard.lean, 'card_holds'). Laid BY PROGRAM, IN A SANDBOX (cutbox-door.mjs). By AI agents, Wed Nov 11 2026. No macro, syntax, notation, axiom, sorry.
-/
import Derived.Test.YtflmocamfedbdaaGreatDoorRows
import GoSem.ClaimSeven
namespace Go.Proofs.YtflmocamfedbdaaGreatDoor
namespace Rows

/-- THE TIED CARD OF 'chandlerlaw10.IndexSplits'. -/
def indexSplitsCard : Claim7 := { stood := { row := indexSplitsRow, standIns := [], harness := (true, "0fc1dd1f8e2c3df9f77f31e0ae6b3736f06cb83cbcabf40130ae33f82ca06ee4"), looks := false }, kinds := [], alts := [], laidByText := true, laidKinds := [.data, .pinned], laidTests := true, laidLooks := .later }
def IndexSplitsCardSaid : Prop := Claim7.holds Tryz.pinned (.plain (OpenSpec.ofChange indexSplitsSpec)) indexSplitsCard

/-- THE TIED CARD OF 'chandlerlaw10.IndexGives'. -/
def indexGivesCard : Claim7 := { stood := { row := indexGivesRow, standIns := [], harness := (true, "0fc1dd1f8e2c3df9f77f31e0ae6b3736f06cb83cbcabf40130ae33f82ca06ee4"), looks := false }, kinds := [], alts := [], laidByText := true, laidKinds := [.data, .pinned], laidTests := true, laidLooks := .later }
def IndexGivesCardSaid : Prop := Claim7.holds Tryz.pinned (.plain (OpenSpec.ofChange indexGivesSpec)) indexGivesCard

/-- THE TIED CARD OF 'chandlerlaw10.IndexMeets'. -/
def indexMeetsCard : Claim7 := { stood := { row := indexMeetsRow, standIns := [], harness := (true, "0fc1dd1f8e2c3df9f77f31e0ae6b3736f06cb83cbcabf40130ae33f82ca06ee4"), looks := false }, kinds := [], alts := [], laidByText := true, laidKinds := [.data, .pinned], laidTests := true, laidLooks := .later }
def IndexMeetsCardSaid : Prop := Claim7.holds Tryz.pinned (.plain (OpenSpec.ofChange indexMeetsSpec)) indexMeetsCard

/-- THE TIED CARD OF 'chandlerlaw10.IndexFinds'. -/
def indexFindsCard : Claim7 := { stood := { row := indexFindsRow, standIns := [], harness := (true, "0fc1dd1f8e2c3df9f77f31e0ae6b3736f06cb83cbcabf40130ae33f82ca06ee4"), looks := false }, kinds := [], alts := [], laidByText := true, laidKinds := [.data, .pinned], laidTests := true, laidLooks := .later }
def IndexFindsCardSaid : Prop := Claim7.holds Tryz.pinned (.plain (OpenSpec.ofChange indexFindsSpec)) indexFindsCard

/-- THE TIED CARD OF 'chandlerlaw12.UniverseOf'. -/
def universeOfCard : Claim7 := { stood := { row := universeOfRow, standIns := [], harness := (true, "0fc1dd1f8e2c3df9f77f31e0ae6b3736f06cb83cbcabf40130ae33f82ca06ee4"), looks := false }, kinds := [], alts := [], laidByText := true, laidKinds := [.data, .pinned], laidTests := true, laidLooks := .later }
def UniverseOfCardSaid : Prop := Claim7.holds Tryz.pinned (.plain (OpenSpec.ofChange universeOfSpec)) universeOfCard

/-- THE TIED CARD OF 'chandlerlaw12.UniverseGrows'. -/
def universeGrowsCard : Claim7 := { stood := { row := universeGrowsRow, standIns := [], harness := (true, "0fc1dd1f8e2c3df9f77f31e0ae6b3736f06cb83cbcabf40130ae33f82ca06ee4"), looks := false }, kinds := [], alts := [], laidByText := true, laidKinds := [.data, .pinned], laidTests := true, laidLooks := .later }
def UniverseGrowsCardSaid : Prop := Claim7.holds Tryz.pinned (.plain (OpenSpec.ofChange universeGrowsSpec)) universeGrowsCard

/-- THE TIED CARD OF 'chandlerlaw12.UniverseAll'. -/
def universeAllCard : Claim7 := { stood := { row := universeAllRow, standIns := [], harness := (true, "0fc1dd1f8e2c3df9f77f31e0ae6b3736f06cb83cbcabf40130ae33f82ca06ee4"), looks := false }, kinds := [], alts := [], laidByText := true, laidKinds := [.data, .pinned], laidTests := true, laidLooks := .later }
def UniverseAllCardSaid : Prop := Claim7.holds Tryz.pinned (.plain (OpenSpec.ofChange universeAllSpec)) universeAllCard

/-- THE TIED CARD OF 'chandlerlaw12.UniverseShuts'. -/
def universeShutsCard : Claim7 := { stood := { row := universeShutsRow, standIns := [], harness := (true, "0fc1dd1f8e2c3df9f77f31e0ae6b3736f06cb83cbcabf40130ae33f82ca06ee4"), looks := false }, kinds := [], alts := [], laidByText := true, laidKinds := [.data, .pinned], laidTests := true, laidLooks := .later }
def UniverseShutsCardSaid : Prop := Claim7.holds Tryz.pinned (.plain (OpenSpec.ofChange universeShutsSpec)) universeShutsCard

/-- THE SECOND FORM's CARD OF 'chandlerlaw10.IndexSplits'. -/
def indexSplitsUptoCard : Claim7 := { stood := { row := indexSplitsUptoRow, standIns := [], harness := (true, "0fc1dd1f8e2c3df9f77f31e0ae6b3736f06cb83cbcabf40130ae33f82ca06ee4"), looks := false }, kinds := [], alts := [], laidByText := true, laidKinds := [.data, .pinned], laidTests := true, laidLooks := .later }
def IndexSplitsUptoCardSaid : Prop := Claim7.holds Tryz.pinned (.plain (OpenSpec.upto indexSplitsSpec)) indexSplitsUptoCard

/-- THE SECOND FORM's CARD OF 'chandlerlaw10.IndexGives'. -/
def indexGivesUptoCard : Claim7 := { stood := { row := indexGivesUptoRow, standIns := [], harness := (true, "0fc1dd1f8e2c3df9f77f31e0ae6b3736f06cb83cbcabf40130ae33f82ca06ee4"), looks := false }, kinds := [], alts := [], laidByText := true, laidKinds := [.data, .pinned], laidTests := true, laidLooks := .later }
def IndexGivesUptoCardSaid : Prop := Claim7.holds Tryz.pinned (.plain (OpenSpec.upto indexGivesSpec)) indexGivesUptoCard

/-- THE SECOND FORM's CARD OF 'chandlerlaw10.IndexMeets'. -/
def indexMeetsUptoCard : Claim7 := { stood := { row := indexMeetsUptoRow, standIns := [], harness := (true, "0fc1dd1f8e2c3df9f77f31e0ae6b3736f06cb83cbcabf40130ae33f82ca06ee4"), looks := false }, kinds := [], alts := [], laidByText := true, laidKinds := [.data, .pinned], laidTests := true, laidLooks := .later }
def IndexMeetsUptoCardSaid : Prop := Claim7.holds Tryz.pinned (.plain (OpenSpec.upto indexMeetsSpec)) indexMeetsUptoCard

/-- THE SECOND FORM's CARD OF 'chandlerlaw10.IndexFinds'. -/
def indexFindsUptoCard : Claim7 := { stood := { row := indexFindsUptoRow, standIns := [], harness := (true, "0fc1dd1f8e2c3df9f77f31e0ae6b3736f06cb83cbcabf40130ae33f82ca06ee4"), looks := false }, kinds := [], alts := [], laidByText := true, laidKinds := [.data, .pinned], laidTests := true, laidLooks := .later }
def IndexFindsUptoCardSaid : Prop := Claim7.holds Tryz.pinned (.plain (OpenSpec.upto indexFindsSpec)) indexFindsUptoCard

/-- THE SECOND FORM's CARD OF 'chandlerlaw12.UniverseOf'. -/
def universeOfUptoCard : Claim7 := { stood := { row := universeOfUptoRow, standIns := [], harness := (true, "0fc1dd1f8e2c3df9f77f31e0ae6b3736f06cb83cbcabf40130ae33f82ca06ee4"), looks := false }, kinds := [], alts := [], laidByText := true, laidKinds := [.data, .pinned], laidTests := true, laidLooks := .later }
def UniverseOfUptoCardSaid : Prop := Claim7.holds Tryz.pinned (.plain (OpenSpec.upto universeOfSpec)) universeOfUptoCard

/-- THE SECOND FORM's CARD OF 'chandlerlaw12.UniverseGrows'. -/
def universeGrowsUptoCard : Claim7 := { stood := { row := universeGrowsUptoRow, standIns := [], harness := (true, "0fc1dd1f8e2c3df9f77f31e0ae6b3736f06cb83cbcabf40130ae33f82ca06ee4"), looks := false }, kinds := [], alts := [], laidByText := true, laidKinds := [.data, .pinned], laidTests := true, laidLooks := .later }
def UniverseGrowsUptoCardSaid : Prop := Claim7.holds Tryz.pinned (.plain (OpenSpec.upto universeGrowsSpec)) universeGrowsUptoCard

/-- THE SECOND FORM's CARD OF 'chandlerlaw12.UniverseAll'. -/
def universeAllUptoCard : Claim7 := { stood := { row := universeAllUptoRow, standIns := [], harness := (true, "0fc1dd1f8e2c3df9f77f31e0ae6b3736f06cb83cbcabf40130ae33f82ca06ee4"), looks := false }, kinds := [], alts := [], laidByText := true, laidKinds := [.data, .pinned], laidTests := true, laidLooks := .later }
def UniverseAllUptoCardSaid : Prop := Claim7.holds Tryz.pinned (.plain (OpenSpec.upto universeAllSpec)) universeAllUptoCard

/-- THE SECOND FORM's CARD OF 'chandlerlaw12.UniverseShuts'. -/
def universeShutsUptoCard : Claim7 := { stood := { row := universeShutsUptoRow, standIns := [], harness := (true, "0fc1dd1f8e2c3df9f77f31e0ae6b3736f06cb83cbcabf40130ae33f82ca06ee4"), looks := false }, kinds := [], alts := [], laidByText := true, laidKinds := [.data, .pinned], laidTests := true, laidLooks := .later }
def UniverseShutsUptoCardSaid : Prop := Claim7.holds Tryz.pinned (.plain (OpenSpec.upto universeShutsSpec)) universeShutsUptoCard
end Rows
end Go.Proofs.YtflmocamfedbdaaGreatDoor
