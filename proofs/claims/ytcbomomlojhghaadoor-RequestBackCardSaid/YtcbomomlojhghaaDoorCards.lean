/-
  DERIVED. GIVEN WITH THE SEED: THE CARDS: each row of YtcbomomlojhghaaDoorRows.lean that lists a variable, with what it lists TIED to the program's text (the seventh form; the later family's looks); each row that meets fmt, with fmt's text TOLD by the authors' own Lean function (tested against real Go, not proved from fmt's source: count such statements apart). THE CARD IS WHAT COUNTS. Prove the row's statement (the work); the ties are given (YtcbomomlojhghaaDoorTie.lean); close each card by the builder's one call (the guide's Derived/Test/ToyasCard.lean, 'card_holds'). Laid BY PROGRAM, IN A SANDBOX (cutbox-door.mjs). By AI agents, Wed Nov 11 2026. No macro, syntax, notation, axiom, sorry.
-/
import Derived.Test.YtcbomomlojhghaaDoorRows
import GoSem.ClaimSeven
namespace Go.Proofs.YtcbomomlojhghaaDoor
namespace Rows

/-- THE TIED CARD OF 'chandlerlaw16.CostAdds'. -/
def costAddsCard : Claim7 := { stood := { row := costAddsRow, standIns := [], harness := (true, "8b665b9d676ee3d9421414e9369c215ffbb17b587cafa8375cd229895f99ba82"), looks := false }, kinds := [], alts := [], laidByText := true, laidKinds := [.data, .pinned], laidTests := true, laidLooks := .later }
def CostAddsCardSaid : Prop := Claim7.holds Tryd.pinned (.plain (OpenSpec.ofChange costAddsSpec)) costAddsCard

/-- THE TIED CARD OF 'chandlerlaw17.RequestParses'. -/
def requestParsesCard : Claim7 := { stood := { row := requestParsesRow, standIns := [], harness := (true, "8b665b9d676ee3d9421414e9369c215ffbb17b587cafa8375cd229895f99ba82"), looks := false }, kinds := [], alts := [], laidByText := true, laidKinds := [.data, .pinned], laidTests := true, laidLooks := .later }
def RequestParsesCardSaid : Prop := Claim7.holds Tryd.pinned (.plain (OpenSpec.ofChange requestParsesSpec)) requestParsesCard

/-- THE TIED CARD OF 'chandlerlaw17.RequestBack'. -/
def requestBackCard : Claim7 := { stood := { row := requestBackRow, standIns := [], harness := (true, "8b665b9d676ee3d9421414e9369c215ffbb17b587cafa8375cd229895f99ba82"), looks := false }, kinds := [], alts := [], laidByText := true, laidKinds := [.data, .pinned], laidTests := true, laidLooks := .later }
def RequestBackCardSaid : Prop := Claim7.holds Tryd.pinned (.plain (OpenSpec.ofChange requestBackSpec)) requestBackCard

/-- THE TIED CARD OF 'chandlerlaw17.RequestPrints'. -/
def requestPrintsCard : Claim7 := { stood := { row := requestPrintsRow, standIns := [], harness := (true, "8b665b9d676ee3d9421414e9369c215ffbb17b587cafa8375cd229895f99ba82"), looks := false }, kinds := [], alts := [], laidByText := true, laidKinds := [.data, .pinned], laidTests := true, laidLooks := .later }
def RequestPrintsCardSaid : Prop := Claim7.holds Tryd.pinned (.plain (OpenSpec.ofChange requestPrintsSpec)) requestPrintsCard

/-- THE SECOND FORM's CARD OF 'chandlerlaw16.CostAdds'. -/
def costAddsUptoCard : Claim7 := { stood := { row := costAddsUptoRow, standIns := [], harness := (true, "8b665b9d676ee3d9421414e9369c215ffbb17b587cafa8375cd229895f99ba82"), looks := false }, kinds := [], alts := [], laidByText := true, laidKinds := [.data, .pinned], laidTests := true, laidLooks := .later }
def CostAddsUptoCardSaid : Prop := Claim7.holds Tryd.pinned (.plain (OpenSpec.upto costAddsSpec)) costAddsUptoCard

/-- THE SECOND FORM's CARD OF 'chandlerlaw17.RequestParses'. -/
def requestParsesUptoCard : Claim7 := { stood := { row := requestParsesUptoRow, standIns := [], harness := (true, "8b665b9d676ee3d9421414e9369c215ffbb17b587cafa8375cd229895f99ba82"), looks := false }, kinds := [], alts := [], laidByText := true, laidKinds := [.data, .pinned], laidTests := true, laidLooks := .later }
def RequestParsesUptoCardSaid : Prop := Claim7.holds Tryd.pinned (.plain (OpenSpec.upto requestParsesSpec)) requestParsesUptoCard

/-- THE SECOND FORM's CARD OF 'chandlerlaw17.RequestBack'. -/
def requestBackUptoCard : Claim7 := { stood := { row := requestBackUptoRow, standIns := [], harness := (true, "8b665b9d676ee3d9421414e9369c215ffbb17b587cafa8375cd229895f99ba82"), looks := false }, kinds := [], alts := [], laidByText := true, laidKinds := [.data, .pinned], laidTests := true, laidLooks := .later }
def RequestBackUptoCardSaid : Prop := Claim7.holds Tryd.pinned (.plain (OpenSpec.upto requestBackSpec)) requestBackUptoCard

/-- THE SECOND FORM's CARD OF 'chandlerlaw17.RequestPrints'. -/
def requestPrintsUptoCard : Claim7 := { stood := { row := requestPrintsUptoRow, standIns := [], harness := (true, "8b665b9d676ee3d9421414e9369c215ffbb17b587cafa8375cd229895f99ba82"), looks := false }, kinds := [], alts := [], laidByText := true, laidKinds := [.data, .pinned], laidTests := true, laidLooks := .later }
def RequestPrintsUptoCardSaid : Prop := Claim7.holds Tryd.pinned (.plain (OpenSpec.upto requestPrintsSpec)) requestPrintsUptoCard
end Rows
end Go.Proofs.YtcbomomlojhghaaDoor
