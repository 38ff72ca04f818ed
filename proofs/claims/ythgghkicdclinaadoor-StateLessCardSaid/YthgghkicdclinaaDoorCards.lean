/-
  DERIVED. GIVEN WITH THE SEED: THE CARDS: each row of YthgghkicdclinaaDoorRows.lean that lists a variable, with what it lists TIED to the program's text (the seventh form; the later family's looks); each row that meets fmt, with fmt's text TOLD by the authors' own Lean function (tested against real Go, not proved from fmt's source: count such statements apart). THE CARD IS WHAT COUNTS. Prove the row's statement (the work); the ties are given (YthgghkicdclinaaDoorTie.lean); close each card by the builder's one call (the guide's Derived/Test/ToyasCard.lean, 'card_holds'). Laid BY PROGRAM, IN A SANDBOX (cutbox-door.mjs). By AI agents, Wed Nov 11 2026. No macro, syntax, notation, axiom, sorry.
-/
import Derived.Test.YthgghkicdclinaaDoorRows
import GoSem.ClaimSeven
namespace Go.Proofs.YthgghkicdclinaaDoor
namespace Rows

/-- THE TIED CARD OF 'chandlerlaw11.StateWrong'. -/
def stateWrongCard : Claim7 := { stood := { row := stateWrongRow, standIns := [], harness := (true, "5b5fce302fab30c6768cb67f070f2101b76c75e0861b9ef25b4af108395b1a51"), looks := false }, kinds := [], alts := [], laidByText := true, laidKinds := [.data, .pinned], laidTests := true, laidLooks := .later }
def StateWrongCardSaid : Prop := Claim7.holds Tryd.pinned (.plain (OpenSpec.ofChange stateWrongSpec)) stateWrongCard

/-- THE TIED CARD OF 'chandlerlaw11.StateWithin'. -/
def stateWithinCard : Claim7 := { stood := { row := stateWithinRow, standIns := [], harness := (true, "5b5fce302fab30c6768cb67f070f2101b76c75e0861b9ef25b4af108395b1a51"), looks := false }, kinds := [], alts := [], laidByText := true, laidKinds := [.data, .pinned], laidTests := true, laidLooks := .later }
def StateWithinCardSaid : Prop := Claim7.holds Tryd.pinned (.plain (OpenSpec.ofChange stateWithinSpec)) stateWithinCard

/-- THE TIED CARD OF 'chandlerlaw11.StateLess'. -/
def stateLessCard : Claim7 := { stood := { row := stateLessRow, standIns := [], harness := (true, "5b5fce302fab30c6768cb67f070f2101b76c75e0861b9ef25b4af108395b1a51"), looks := false }, kinds := [], alts := [], laidByText := true, laidKinds := [.data, .pinned], laidTests := true, laidLooks := .later }
def StateLessCardSaid : Prop := Claim7.holds Tryd.pinned (.plain (OpenSpec.ofChange stateLessSpec)) stateLessCard

/-- THE TIED CARD OF 'chandlerlaw16.CostOf'. -/
def costOfCard : Claim7 := { stood := { row := costOfRow, standIns := [], harness := (true, "5b5fce302fab30c6768cb67f070f2101b76c75e0861b9ef25b4af108395b1a51"), looks := false }, kinds := [], alts := [], laidByText := true, laidKinds := [.data, .pinned], laidTests := true, laidLooks := .later }
def CostOfCardSaid : Prop := Claim7.holds Tryd.pinned (.plain (OpenSpec.ofChange costOfSpec)) costOfCard

/-- THE TIED CARD OF 'chandlerlaw16.CostStays'. -/
def costStaysCard : Claim7 := { stood := { row := costStaysRow, standIns := [], harness := (true, "5b5fce302fab30c6768cb67f070f2101b76c75e0861b9ef25b4af108395b1a51"), looks := false }, kinds := [], alts := [], laidByText := true, laidKinds := [.data, .pinned], laidTests := true, laidLooks := .later }
def CostStaysCardSaid : Prop := Claim7.holds Tryd.pinned (.plain (OpenSpec.ofChange costStaysSpec)) costStaysCard

/-- THE TIED CARD OF 'chandlerlaw16.CostTurned'. -/
def costTurnedCard : Claim7 := { stood := { row := costTurnedRow, standIns := [], harness := (true, "5b5fce302fab30c6768cb67f070f2101b76c75e0861b9ef25b4af108395b1a51"), looks := false }, kinds := [], alts := [], laidByText := true, laidKinds := [.data, .pinned], laidTests := true, laidLooks := .later }
def CostTurnedCardSaid : Prop := Claim7.holds Tryd.pinned (.plain (OpenSpec.ofChange costTurnedSpec)) costTurnedCard

/-- THE TIED CARD OF 'chandlerlaw16.CostAdds'. -/
def costAddsCard : Claim7 := { stood := { row := costAddsRow, standIns := [], harness := (true, "5b5fce302fab30c6768cb67f070f2101b76c75e0861b9ef25b4af108395b1a51"), looks := false }, kinds := [], alts := [], laidByText := true, laidKinds := [.data, .pinned], laidTests := true, laidLooks := .later }
def CostAddsCardSaid : Prop := Claim7.holds Tryd.pinned (.plain (OpenSpec.ofChange costAddsSpec)) costAddsCard

/-- THE TIED CARD OF 'chandlerlaw16.CostLess'. -/
def costLessCard : Claim7 := { stood := { row := costLessRow, standIns := [], harness := (true, "5b5fce302fab30c6768cb67f070f2101b76c75e0861b9ef25b4af108395b1a51"), looks := false }, kinds := [], alts := [], laidByText := true, laidKinds := [.data, .pinned], laidTests := true, laidLooks := .later }
def CostLessCardSaid : Prop := Claim7.holds Tryd.pinned (.plain (OpenSpec.ofChange costLessSpec)) costLessCard

/-- THE TIED CARD OF 'chandlerlaw11.StateSound'. -/
def stateSoundCard : Claim7 := { stood := { row := stateSoundRow, standIns := [], harness := (true, "5b5fce302fab30c6768cb67f070f2101b76c75e0861b9ef25b4af108395b1a51"), looks := false }, kinds := [], alts := [], laidByText := true, laidKinds := [.data, .pinned], laidTests := true, laidLooks := .later }
def StateSoundCardSaid : Prop := Claim7.holds Tryd.pinned (.plain (OpenSpec.ofChange stateSoundSpec)) stateSoundCard

/-- THE TIED CARD OF 'chandlerlaw11.StateFinds'. -/
def stateFindsCard : Claim7 := { stood := { row := stateFindsRow, standIns := [], harness := (true, "5b5fce302fab30c6768cb67f070f2101b76c75e0861b9ef25b4af108395b1a51"), looks := false }, kinds := [], alts := [], laidByText := true, laidKinds := [.data, .pinned], laidTests := true, laidLooks := .later }
def StateFindsCardSaid : Prop := Claim7.holds Tryd.pinned (.plain (OpenSpec.ofChange stateFindsSpec)) stateFindsCard

/-- THE SECOND FORM's CARD OF 'chandlerlaw11.StateWrong'. -/
def stateWrongUptoCard : Claim7 := { stood := { row := stateWrongUptoRow, standIns := [], harness := (true, "5b5fce302fab30c6768cb67f070f2101b76c75e0861b9ef25b4af108395b1a51"), looks := false }, kinds := [], alts := [], laidByText := true, laidKinds := [.data, .pinned], laidTests := true, laidLooks := .later }
def StateWrongUptoCardSaid : Prop := Claim7.holds Tryd.pinned (.plain (OpenSpec.upto stateWrongSpec)) stateWrongUptoCard

/-- THE SECOND FORM's CARD OF 'chandlerlaw11.StateWithin'. -/
def stateWithinUptoCard : Claim7 := { stood := { row := stateWithinUptoRow, standIns := [], harness := (true, "5b5fce302fab30c6768cb67f070f2101b76c75e0861b9ef25b4af108395b1a51"), looks := false }, kinds := [], alts := [], laidByText := true, laidKinds := [.data, .pinned], laidTests := true, laidLooks := .later }
def StateWithinUptoCardSaid : Prop := Claim7.holds Tryd.pinned (.plain (OpenSpec.upto stateWithinSpec)) stateWithinUptoCard

/-- THE SECOND FORM's CARD OF 'chandlerlaw11.StateLess'. -/
def stateLessUptoCard : Claim7 := { stood := { row := stateLessUptoRow, standIns := [], harness := (true, "5b5fce302fab30c6768cb67f070f2101b76c75e0861b9ef25b4af108395b1a51"), looks := false }, kinds := [], alts := [], laidByText := true, laidKinds := [.data, .pinned], laidTests := true, laidLooks := .later }
def StateLessUptoCardSaid : Prop := Claim7.holds Tryd.pinned (.plain (OpenSpec.upto stateLessSpec)) stateLessUptoCard

/-- THE SECOND FORM's CARD OF 'chandlerlaw16.CostOf'. -/
def costOfUptoCard : Claim7 := { stood := { row := costOfUptoRow, standIns := [], harness := (true, "5b5fce302fab30c6768cb67f070f2101b76c75e0861b9ef25b4af108395b1a51"), looks := false }, kinds := [], alts := [], laidByText := true, laidKinds := [.data, .pinned], laidTests := true, laidLooks := .later }
def CostOfUptoCardSaid : Prop := Claim7.holds Tryd.pinned (.plain (OpenSpec.upto costOfSpec)) costOfUptoCard

/-- THE SECOND FORM's CARD OF 'chandlerlaw16.CostStays'. -/
def costStaysUptoCard : Claim7 := { stood := { row := costStaysUptoRow, standIns := [], harness := (true, "5b5fce302fab30c6768cb67f070f2101b76c75e0861b9ef25b4af108395b1a51"), looks := false }, kinds := [], alts := [], laidByText := true, laidKinds := [.data, .pinned], laidTests := true, laidLooks := .later }
def CostStaysUptoCardSaid : Prop := Claim7.holds Tryd.pinned (.plain (OpenSpec.upto costStaysSpec)) costStaysUptoCard

/-- THE SECOND FORM's CARD OF 'chandlerlaw16.CostTurned'. -/
def costTurnedUptoCard : Claim7 := { stood := { row := costTurnedUptoRow, standIns := [], harness := (true, "5b5fce302fab30c6768cb67f070f2101b76c75e0861b9ef25b4af108395b1a51"), looks := false }, kinds := [], alts := [], laidByText := true, laidKinds := [.data, .pinned], laidTests := true, laidLooks := .later }
def CostTurnedUptoCardSaid : Prop := Claim7.holds Tryd.pinned (.plain (OpenSpec.upto costTurnedSpec)) costTurnedUptoCard

/-- THE SECOND FORM's CARD OF 'chandlerlaw16.CostAdds'. -/
def costAddsUptoCard : Claim7 := { stood := { row := costAddsUptoRow, standIns := [], harness := (true, "5b5fce302fab30c6768cb67f070f2101b76c75e0861b9ef25b4af108395b1a51"), looks := false }, kinds := [], alts := [], laidByText := true, laidKinds := [.data, .pinned], laidTests := true, laidLooks := .later }
def CostAddsUptoCardSaid : Prop := Claim7.holds Tryd.pinned (.plain (OpenSpec.upto costAddsSpec)) costAddsUptoCard

/-- THE SECOND FORM's CARD OF 'chandlerlaw16.CostLess'. -/
def costLessUptoCard : Claim7 := { stood := { row := costLessUptoRow, standIns := [], harness := (true, "5b5fce302fab30c6768cb67f070f2101b76c75e0861b9ef25b4af108395b1a51"), looks := false }, kinds := [], alts := [], laidByText := true, laidKinds := [.data, .pinned], laidTests := true, laidLooks := .later }
def CostLessUptoCardSaid : Prop := Claim7.holds Tryd.pinned (.plain (OpenSpec.upto costLessSpec)) costLessUptoCard

/-- THE SECOND FORM's CARD OF 'chandlerlaw11.StateSound'. -/
def stateSoundUptoCard : Claim7 := { stood := { row := stateSoundUptoRow, standIns := [], harness := (true, "5b5fce302fab30c6768cb67f070f2101b76c75e0861b9ef25b4af108395b1a51"), looks := false }, kinds := [], alts := [], laidByText := true, laidKinds := [.data, .pinned], laidTests := true, laidLooks := .later }
def StateSoundUptoCardSaid : Prop := Claim7.holds Tryd.pinned (.plain (OpenSpec.upto stateSoundSpec)) stateSoundUptoCard

/-- THE SECOND FORM's CARD OF 'chandlerlaw11.StateFinds'. -/
def stateFindsUptoCard : Claim7 := { stood := { row := stateFindsUptoRow, standIns := [], harness := (true, "5b5fce302fab30c6768cb67f070f2101b76c75e0861b9ef25b4af108395b1a51"), looks := false }, kinds := [], alts := [], laidByText := true, laidKinds := [.data, .pinned], laidTests := true, laidLooks := .later }
def StateFindsUptoCardSaid : Prop := Claim7.holds Tryd.pinned (.plain (OpenSpec.upto stateFindsSpec)) stateFindsUptoCard
end Rows
end Go.Proofs.YthgghkicdclinaaDoor
