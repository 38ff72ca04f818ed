/-
  DERIVED. GIVEN WITH THE SEED: THE CARDS: each row of YthgghkicdclinaaGreatDoorRows.lean that lists a variable, with what it lists TIED to the program's text (the seventh form; the later family's looks); each row that meets fmt, with fmt's text TOLD by the authors' own Lean function (tested against real Go, not proved from fmt's source: count such statements apart). THE CARD IS WHAT COUNTS. Prove the row's statement (the work); the ties are given (YthgghkicdclinaaGreatDoorTie.lean); close each card by the builder's one call (the guide's Derived/Test/ToyasCard.lean, 'card_holds'). Laid BY PROGRAM, IN A SANDBOX (cutbox-door.mjs). By AI agents, Wed Nov 11 2026. No macro, syntax, notation, axiom, sorry.
-/
import Derived.Test.YthgghkicdclinaaGreatDoorRows
import GoSem.ClaimSeven
namespace Go.Proofs.YthgghkicdclinaaGreatDoor
namespace Rows

/-- THE TIED CARD OF 'chandlerlaw11.StateHealthy'. -/
def stateHealthyCard : Claim7 := { stood := { row := stateHealthyRow, standIns := [], harness := (true, "7ad8f80dad1337bb40544c288ea5e67cf5a27508ea18a32faa09e7b07651ff41"), looks := false }, kinds := [], alts := [], laidByText := true, laidKinds := [.data, .pinned], laidTests := true, laidLooks := .later }
def StateHealthyCardSaid : Prop := Claim7.holds Tryz.pinned (.plain (OpenSpec.ofChange stateHealthySpec)) stateHealthyCard

/-- THE SECOND FORM's CARD OF 'chandlerlaw11.StateHealthy'. -/
def stateHealthyUptoCard : Claim7 := { stood := { row := stateHealthyUptoRow, standIns := [], harness := (true, "7ad8f80dad1337bb40544c288ea5e67cf5a27508ea18a32faa09e7b07651ff41"), looks := false }, kinds := [], alts := [], laidByText := true, laidKinds := [.data, .pinned], laidTests := true, laidLooks := .later }
def StateHealthyUptoCardSaid : Prop := Claim7.holds Tryz.pinned (.plain (OpenSpec.upto stateHealthySpec)) stateHealthyUptoCard
end Rows
end Go.Proofs.YthgghkicdclinaaGreatDoor
