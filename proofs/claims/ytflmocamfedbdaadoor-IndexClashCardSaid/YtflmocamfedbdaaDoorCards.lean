/-
  DERIVED. GIVEN WITH THE SEED: THE CARDS: each row of YtflmocamfedbdaaDoorRows.lean that lists a variable, with what it lists TIED to the program's text (the seventh form; the later family's looks); each row that meets fmt, with fmt's text TOLD by the authors' own Lean function (tested against real Go, not proved from fmt's source: count such statements apart). THE CARD IS WHAT COUNTS. Prove the row's statement (the work); the ties are given (YtflmocamfedbdaaDoorTie.lean); close each card by the builder's one call (the guide's Derived/Test/ToyasCard.lean, 'card_holds'). Laid BY PROGRAM, IN A SANDBOX (cutbox-door.mjs). By AI agents, Wed Nov 11 2026. No macro, syntax, notation, axiom, sorry.
-/
import Derived.Test.YtflmocamfedbdaaDoorRows
import GoSem.ClaimSeven
namespace Go.Proofs.YtflmocamfedbdaaDoor
namespace Rows

/-- THE TIED CARD OF 'chandlerlaw10.IndexClash'. -/
def indexClashCard : Claim7 := { stood := { row := indexClashRow, standIns := [], harness := (true, "4861571ebee9994aa19f302d63283eb7c1a455f69c669280e2e475eb31906b69"), looks := false }, kinds := [], alts := [], laidByText := true, laidKinds := [.data, .pinned], laidTests := true, laidLooks := .later }
def IndexClashCardSaid : Prop := Claim7.holds Tryd.pinned (.plain (OpenSpec.ofChange indexClashSpec)) indexClashCard

/-- THE TIED CARD OF 'chandlerlaw10.IndexTurned'. -/
def indexTurnedCard : Claim7 := { stood := { row := indexTurnedRow, standIns := [], harness := (true, "4861571ebee9994aa19f302d63283eb7c1a455f69c669280e2e475eb31906b69"), looks := false }, kinds := [], alts := [], laidByText := true, laidKinds := [.data, .pinned], laidTests := true, laidLooks := .later }
def IndexTurnedCardSaid : Prop := Claim7.holds Tryd.pinned (.plain (OpenSpec.ofChange indexTurnedSpec)) indexTurnedCard

/-- THE TIED CARD OF 'chandlerlaw10.IndexNil'. -/
def indexNilCard : Claim7 := { stood := { row := indexNilRow, standIns := [], harness := (true, "4861571ebee9994aa19f302d63283eb7c1a455f69c669280e2e475eb31906b69"), looks := false }, kinds := [], alts := [], laidByText := true, laidKinds := [.data, .pinned], laidTests := true, laidLooks := .later }
def IndexNilCardSaid : Prop := Claim7.holds Tryd.pinned (.plain (OpenSpec.ofChange indexNilSpec)) indexNilCard

/-- THE SECOND FORM's CARD OF 'chandlerlaw10.IndexClash'. -/
def indexClashUptoCard : Claim7 := { stood := { row := indexClashUptoRow, standIns := [], harness := (true, "4861571ebee9994aa19f302d63283eb7c1a455f69c669280e2e475eb31906b69"), looks := false }, kinds := [], alts := [], laidByText := true, laidKinds := [.data, .pinned], laidTests := true, laidLooks := .later }
def IndexClashUptoCardSaid : Prop := Claim7.holds Tryd.pinned (.plain (OpenSpec.upto indexClashSpec)) indexClashUptoCard

/-- THE SECOND FORM's CARD OF 'chandlerlaw10.IndexTurned'. -/
def indexTurnedUptoCard : Claim7 := { stood := { row := indexTurnedUptoRow, standIns := [], harness := (true, "4861571ebee9994aa19f302d63283eb7c1a455f69c669280e2e475eb31906b69"), looks := false }, kinds := [], alts := [], laidByText := true, laidKinds := [.data, .pinned], laidTests := true, laidLooks := .later }
def IndexTurnedUptoCardSaid : Prop := Claim7.holds Tryd.pinned (.plain (OpenSpec.upto indexTurnedSpec)) indexTurnedUptoCard

/-- THE SECOND FORM's CARD OF 'chandlerlaw10.IndexNil'. -/
def indexNilUptoCard : Claim7 := { stood := { row := indexNilUptoRow, standIns := [], harness := (true, "4861571ebee9994aa19f302d63283eb7c1a455f69c669280e2e475eb31906b69"), looks := false }, kinds := [], alts := [], laidByText := true, laidKinds := [.data, .pinned], laidTests := true, laidLooks := .later }
def IndexNilUptoCardSaid : Prop := Claim7.holds Tryd.pinned (.plain (OpenSpec.upto indexNilSpec)) indexNilUptoCard
end Rows
end Go.Proofs.YtflmocamfedbdaaDoor
