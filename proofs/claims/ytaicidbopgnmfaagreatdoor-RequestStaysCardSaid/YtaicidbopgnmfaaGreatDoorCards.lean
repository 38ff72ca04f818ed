/-
  DERIVED. GIVEN WITH THE SEED: THE CARDS: each row of YtaicidbopgnmfaaGreatDoorRows.lean that lists a variable, with what it lists TIED to the program's text (the seventh form; the later family's looks); each row that meets fmt, with fmt's text TOLD by the authors' own Lean function (tested against real Go, not proved from fmt's source: count such statements apart). THE CARD IS WHAT COUNTS. Prove the row's statement (the work); the ties are given (YtaicidbopgnmfaaGreatDoorTie.lean); close each card by the builder's one call (the guide's Derived/Test/ToyasCard.lean, 'card_holds'). Laid BY PROGRAM, IN A SANDBOX (cutbox-door.mjs). By AI agents, Wed Nov 11 2026. No macro, syntax, notation, axiom, sorry.
-/
import Derived.Test.YtaicidbopgnmfaaGreatDoorRows
import GoSem.ClaimSeven
namespace Go.Proofs.YtaicidbopgnmfaaGreatDoor
namespace Rows

/-- THE TIED CARD OF 'chandlerlaw22.StepDoes'. -/
def stepDoesCard : Claim7 := { stood := { row := stepDoesRow, standIns := [], harness := (true, "808a158df27f8c993fa3363b2cae8ce571b1919ced1239e9d0ee86b2995e28b4"), looks := false }, kinds := [], alts := [], laidByText := true, laidKinds := [.data, .pinned], laidTests := true, laidLooks := .later }
def StepDoesCardSaid : Prop := Claim7.holds Tryz.pinned (.plain (OpenSpec.ofChange stepDoesSpec)) stepDoesCard

/-- THE TIED CARD OF 'chandlerlaw22.StepSafe'. -/
def stepSafeCard : Claim7 := { stood := { row := stepSafeRow, standIns := [], harness := (true, "808a158df27f8c993fa3363b2cae8ce571b1919ced1239e9d0ee86b2995e28b4"), looks := false }, kinds := [], alts := [], laidByText := true, laidKinds := [.data, .pinned], laidTests := true, laidLooks := .later }
def StepSafeCardSaid : Prop := Claim7.holds Tryz.pinned (.plain (OpenSpec.ofChange stepSafeSpec)) stepSafeCard

/-- THE TIED CARD OF 'chandlerlaw22.StepUndoes'. -/
def stepUndoesCard : Claim7 := { stood := { row := stepUndoesRow, standIns := [], harness := (true, "808a158df27f8c993fa3363b2cae8ce571b1919ced1239e9d0ee86b2995e28b4"), looks := false }, kinds := [], alts := [], laidByText := true, laidKinds := [.data, .pinned], laidTests := true, laidLooks := .later }
def StepUndoesCardSaid : Prop := Claim7.holds Tryz.pinned (.plain (OpenSpec.ofChange stepUndoesSpec)) stepUndoesCard

/-- THE TIED CARD OF 'chandlerlaw22.StepRuns'. -/
def stepRunsCard : Claim7 := { stood := { row := stepRunsRow, standIns := [], harness := (true, "808a158df27f8c993fa3363b2cae8ce571b1919ced1239e9d0ee86b2995e28b4"), looks := false }, kinds := [], alts := [], laidByText := true, laidKinds := [.data, .pinned], laidTests := true, laidLooks := .later }
def StepRunsCardSaid : Prop := Claim7.holds Tryz.pinned (.plain (OpenSpec.ofChange stepRunsSpec)) stepRunsCard

/-- THE TIED CARD OF 'chandlerlaw22.StepMany'. -/
def stepManyCard : Claim7 := { stood := { row := stepManyRow, standIns := [], harness := (true, "808a158df27f8c993fa3363b2cae8ce571b1919ced1239e9d0ee86b2995e28b4"), looks := false }, kinds := [], alts := [], laidByText := true, laidKinds := [.data, .pinned], laidTests := true, laidLooks := .later }
def StepManyCardSaid : Prop := Claim7.holds Tryz.pinned (.plain (OpenSpec.ofChange stepManySpec)) stepManyCard

/-- THE TIED CARD OF 'chandlerlaw22.StepAll'. -/
def stepAllCard : Claim7 := { stood := { row := stepAllRow, standIns := [], harness := (true, "808a158df27f8c993fa3363b2cae8ce571b1919ced1239e9d0ee86b2995e28b4"), looks := false }, kinds := [], alts := [], laidByText := true, laidKinds := [.data, .pinned], laidTests := true, laidLooks := .later }
def StepAllCardSaid : Prop := Claim7.holds Tryz.pinned (.plain (OpenSpec.ofChange stepAllSpec)) stepAllCard

/-- THE TIED CARD OF 'chandlerlaw22.StepListed'. -/
def stepListedCard : Claim7 := { stood := { row := stepListedRow, standIns := [], harness := (true, "808a158df27f8c993fa3363b2cae8ce571b1919ced1239e9d0ee86b2995e28b4"), looks := false }, kinds := [], alts := [], laidByText := true, laidKinds := [.data, .pinned], laidTests := true, laidLooks := .later }
def StepListedCardSaid : Prop := Claim7.holds Tryz.pinned (.plain (OpenSpec.ofChange stepListedSpec)) stepListedCard

/-- THE TIED CARD OF 'chandlerlaw22.StepTexts'. -/
def stepTextsCard : Claim7 := { stood := { row := stepTextsRow, standIns := [], harness := (true, "808a158df27f8c993fa3363b2cae8ce571b1919ced1239e9d0ee86b2995e28b4"), looks := false }, kinds := [], alts := [], laidByText := true, laidKinds := [.data, .pinned], laidTests := true, laidLooks := .later }
def StepTextsCardSaid : Prop := Claim7.holds Tryz.pinned (.plain (OpenSpec.ofChange stepTextsSpec)) stepTextsCard

/-- THE TIED CARD OF 'chandlerlaw17.RequestMeets'. -/
def requestMeetsCard : Claim7 := { stood := { row := requestMeetsRow, standIns := [], harness := (true, "808a158df27f8c993fa3363b2cae8ce571b1919ced1239e9d0ee86b2995e28b4"), looks := false }, kinds := [], alts := [], laidByText := true, laidKinds := [.data, .pinned], laidTests := true, laidLooks := .later }
def RequestMeetsCardSaid : Prop := Claim7.holds Tryz.pinned (.plain (OpenSpec.ofChange requestMeetsSpec)) requestMeetsCard

/-- THE TIED CARD OF 'chandlerlaw17.RequestStays'. -/
def requestStaysCard : Claim7 := { stood := { row := requestStaysRow, standIns := [], harness := (true, "808a158df27f8c993fa3363b2cae8ce571b1919ced1239e9d0ee86b2995e28b4"), looks := false }, kinds := [], alts := [], laidByText := true, laidKinds := [.data, .pinned], laidTests := true, laidLooks := .later }
def RequestStaysCardSaid : Prop := Claim7.holds Tryz.pinned (.plain (OpenSpec.ofChange requestStaysSpec)) requestStaysCard

/-- THE TIED CARD OF 'chandlerlaw17.RequestGuards'. -/
def requestGuardsCard : Claim7 := { stood := { row := requestGuardsRow, standIns := [], harness := (true, "808a158df27f8c993fa3363b2cae8ce571b1919ced1239e9d0ee86b2995e28b4"), looks := false }, kinds := [], alts := [], laidByText := true, laidKinds := [.data, .pinned], laidTests := true, laidLooks := .later }
def RequestGuardsCardSaid : Prop := Claim7.holds Tryz.pinned (.plain (OpenSpec.ofChange requestGuardsSpec)) requestGuardsCard

/-- THE TIED CARD OF 'chandlerlaw17.RequestAdds'. -/
def requestAddsCard : Claim7 := { stood := { row := requestAddsRow, standIns := [], harness := (true, "808a158df27f8c993fa3363b2cae8ce571b1919ced1239e9d0ee86b2995e28b4"), looks := false }, kinds := [], alts := [], laidByText := true, laidKinds := [.data, .pinned], laidTests := true, laidLooks := .later }
def RequestAddsCardSaid : Prop := Claim7.holds Tryz.pinned (.plain (OpenSpec.ofChange requestAddsSpec)) requestAddsCard

/-- THE SECOND FORM's CARD OF 'chandlerlaw22.StepDoes'. -/
def stepDoesUptoCard : Claim7 := { stood := { row := stepDoesUptoRow, standIns := [], harness := (true, "808a158df27f8c993fa3363b2cae8ce571b1919ced1239e9d0ee86b2995e28b4"), looks := false }, kinds := [], alts := [], laidByText := true, laidKinds := [.data, .pinned], laidTests := true, laidLooks := .later }
def StepDoesUptoCardSaid : Prop := Claim7.holds Tryz.pinned (.plain (OpenSpec.upto stepDoesSpec)) stepDoesUptoCard

/-- THE SECOND FORM's CARD OF 'chandlerlaw22.StepSafe'. -/
def stepSafeUptoCard : Claim7 := { stood := { row := stepSafeUptoRow, standIns := [], harness := (true, "808a158df27f8c993fa3363b2cae8ce571b1919ced1239e9d0ee86b2995e28b4"), looks := false }, kinds := [], alts := [], laidByText := true, laidKinds := [.data, .pinned], laidTests := true, laidLooks := .later }
def StepSafeUptoCardSaid : Prop := Claim7.holds Tryz.pinned (.plain (OpenSpec.upto stepSafeSpec)) stepSafeUptoCard

/-- THE SECOND FORM's CARD OF 'chandlerlaw22.StepUndoes'. -/
def stepUndoesUptoCard : Claim7 := { stood := { row := stepUndoesUptoRow, standIns := [], harness := (true, "808a158df27f8c993fa3363b2cae8ce571b1919ced1239e9d0ee86b2995e28b4"), looks := false }, kinds := [], alts := [], laidByText := true, laidKinds := [.data, .pinned], laidTests := true, laidLooks := .later }
def StepUndoesUptoCardSaid : Prop := Claim7.holds Tryz.pinned (.plain (OpenSpec.upto stepUndoesSpec)) stepUndoesUptoCard

/-- THE SECOND FORM's CARD OF 'chandlerlaw22.StepRuns'. -/
def stepRunsUptoCard : Claim7 := { stood := { row := stepRunsUptoRow, standIns := [], harness := (true, "808a158df27f8c993fa3363b2cae8ce571b1919ced1239e9d0ee86b2995e28b4"), looks := false }, kinds := [], alts := [], laidByText := true, laidKinds := [.data, .pinned], laidTests := true, laidLooks := .later }
def StepRunsUptoCardSaid : Prop := Claim7.holds Tryz.pinned (.plain (OpenSpec.upto stepRunsSpec)) stepRunsUptoCard

/-- THE SECOND FORM's CARD OF 'chandlerlaw22.StepMany'. -/
def stepManyUptoCard : Claim7 := { stood := { row := stepManyUptoRow, standIns := [], harness := (true, "808a158df27f8c993fa3363b2cae8ce571b1919ced1239e9d0ee86b2995e28b4"), looks := false }, kinds := [], alts := [], laidByText := true, laidKinds := [.data, .pinned], laidTests := true, laidLooks := .later }
def StepManyUptoCardSaid : Prop := Claim7.holds Tryz.pinned (.plain (OpenSpec.upto stepManySpec)) stepManyUptoCard

/-- THE SECOND FORM's CARD OF 'chandlerlaw22.StepAll'. -/
def stepAllUptoCard : Claim7 := { stood := { row := stepAllUptoRow, standIns := [], harness := (true, "808a158df27f8c993fa3363b2cae8ce571b1919ced1239e9d0ee86b2995e28b4"), looks := false }, kinds := [], alts := [], laidByText := true, laidKinds := [.data, .pinned], laidTests := true, laidLooks := .later }
def StepAllUptoCardSaid : Prop := Claim7.holds Tryz.pinned (.plain (OpenSpec.upto stepAllSpec)) stepAllUptoCard

/-- THE SECOND FORM's CARD OF 'chandlerlaw22.StepListed'. -/
def stepListedUptoCard : Claim7 := { stood := { row := stepListedUptoRow, standIns := [], harness := (true, "808a158df27f8c993fa3363b2cae8ce571b1919ced1239e9d0ee86b2995e28b4"), looks := false }, kinds := [], alts := [], laidByText := true, laidKinds := [.data, .pinned], laidTests := true, laidLooks := .later }
def StepListedUptoCardSaid : Prop := Claim7.holds Tryz.pinned (.plain (OpenSpec.upto stepListedSpec)) stepListedUptoCard

/-- THE SECOND FORM's CARD OF 'chandlerlaw22.StepTexts'. -/
def stepTextsUptoCard : Claim7 := { stood := { row := stepTextsUptoRow, standIns := [], harness := (true, "808a158df27f8c993fa3363b2cae8ce571b1919ced1239e9d0ee86b2995e28b4"), looks := false }, kinds := [], alts := [], laidByText := true, laidKinds := [.data, .pinned], laidTests := true, laidLooks := .later }
def StepTextsUptoCardSaid : Prop := Claim7.holds Tryz.pinned (.plain (OpenSpec.upto stepTextsSpec)) stepTextsUptoCard

/-- THE SECOND FORM's CARD OF 'chandlerlaw17.RequestMeets'. -/
def requestMeetsUptoCard : Claim7 := { stood := { row := requestMeetsUptoRow, standIns := [], harness := (true, "808a158df27f8c993fa3363b2cae8ce571b1919ced1239e9d0ee86b2995e28b4"), looks := false }, kinds := [], alts := [], laidByText := true, laidKinds := [.data, .pinned], laidTests := true, laidLooks := .later }
def RequestMeetsUptoCardSaid : Prop := Claim7.holds Tryz.pinned (.plain (OpenSpec.upto requestMeetsSpec)) requestMeetsUptoCard

/-- THE SECOND FORM's CARD OF 'chandlerlaw17.RequestStays'. -/
def requestStaysUptoCard : Claim7 := { stood := { row := requestStaysUptoRow, standIns := [], harness := (true, "808a158df27f8c993fa3363b2cae8ce571b1919ced1239e9d0ee86b2995e28b4"), looks := false }, kinds := [], alts := [], laidByText := true, laidKinds := [.data, .pinned], laidTests := true, laidLooks := .later }
def RequestStaysUptoCardSaid : Prop := Claim7.holds Tryz.pinned (.plain (OpenSpec.upto requestStaysSpec)) requestStaysUptoCard

/-- THE SECOND FORM's CARD OF 'chandlerlaw17.RequestGuards'. -/
def requestGuardsUptoCard : Claim7 := { stood := { row := requestGuardsUptoRow, standIns := [], harness := (true, "808a158df27f8c993fa3363b2cae8ce571b1919ced1239e9d0ee86b2995e28b4"), looks := false }, kinds := [], alts := [], laidByText := true, laidKinds := [.data, .pinned], laidTests := true, laidLooks := .later }
def RequestGuardsUptoCardSaid : Prop := Claim7.holds Tryz.pinned (.plain (OpenSpec.upto requestGuardsSpec)) requestGuardsUptoCard

/-- THE SECOND FORM's CARD OF 'chandlerlaw17.RequestAdds'. -/
def requestAddsUptoCard : Claim7 := { stood := { row := requestAddsUptoRow, standIns := [], harness := (true, "808a158df27f8c993fa3363b2cae8ce571b1919ced1239e9d0ee86b2995e28b4"), looks := false }, kinds := [], alts := [], laidByText := true, laidKinds := [.data, .pinned], laidTests := true, laidLooks := .later }
def RequestAddsUptoCardSaid : Prop := Claim7.holds Tryz.pinned (.plain (OpenSpec.upto requestAddsSpec)) requestAddsUptoCard
end Rows
end Go.Proofs.YtaicidbopgnmfaaGreatDoor
