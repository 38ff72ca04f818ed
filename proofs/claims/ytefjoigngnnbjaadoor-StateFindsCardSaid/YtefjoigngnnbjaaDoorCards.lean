/-
  DERIVED. GIVEN WITH THE SEED: THE CARDS: each row of YtefjoigngnnbjaaDoorRows.lean that lists a variable, with what it lists TIED to the program's text (the seventh form; the later family's looks); each row that meets fmt, with fmt's text TOLD by the authors' own Lean function (tested against real Go, not proved from fmt's source: count such statements apart). THE CARD IS WHAT COUNTS. Prove the row's statement (the work); the ties are given (YtefjoigngnnbjaaDoorTie.lean); close each card by the builder's one call (the guide's Derived/Test/ToyasCard.lean, 'card_holds'). Laid BY PROGRAM, IN A SANDBOX (cutbox-door.mjs). By AI agents, Wed Nov 11 2026. No macro, syntax, notation, axiom, sorry.
-/
import Derived.Test.YtefjoigngnnbjaaDoorRows
import GoSem.ClaimSeven
namespace Go.Proofs.YtefjoigngnnbjaaDoor
namespace Rows

/-- THE TIED CARD OF 'chandlerlaw16.CostAdds'. -/
def costAddsCard : Claim7 := { stood := { row := costAddsRow, standIns := [], harness := (true, "643d7cbf9b7c043529d2e1db2d4102eee30ebbe5fc3044186e265b93f8bd8793"), looks := false }, kinds := [], alts := [], laidByText := true, laidKinds := [.data, .pinned], laidTests := true, laidLooks := .later }
def CostAddsCardSaid : Prop := Claim7.holds Tryd.pinned (.plain (OpenSpec.ofChange costAddsSpec)) costAddsCard

/-- THE TIED CARD OF 'chandlerlaw11.StateFinds'. -/
def stateFindsCard : Claim7 := { stood := { row := stateFindsRow, standIns := [], harness := (true, "643d7cbf9b7c043529d2e1db2d4102eee30ebbe5fc3044186e265b93f8bd8793"), looks := false }, kinds := [], alts := [], laidByText := true, laidKinds := [.data, .pinned], laidTests := true, laidLooks := .later }
def StateFindsCardSaid : Prop := Claim7.holds Tryd.pinned (.plain (OpenSpec.ofChange stateFindsSpec)) stateFindsCard

/-- THE SECOND FORM's CARD OF 'chandlerlaw16.CostAdds'. -/
def costAddsUptoCard : Claim7 := { stood := { row := costAddsUptoRow, standIns := [], harness := (true, "643d7cbf9b7c043529d2e1db2d4102eee30ebbe5fc3044186e265b93f8bd8793"), looks := false }, kinds := [], alts := [], laidByText := true, laidKinds := [.data, .pinned], laidTests := true, laidLooks := .later }
def CostAddsUptoCardSaid : Prop := Claim7.holds Tryd.pinned (.plain (OpenSpec.upto costAddsSpec)) costAddsUptoCard

/-- THE SECOND FORM's CARD OF 'chandlerlaw11.StateFinds'. -/
def stateFindsUptoCard : Claim7 := { stood := { row := stateFindsUptoRow, standIns := [], harness := (true, "643d7cbf9b7c043529d2e1db2d4102eee30ebbe5fc3044186e265b93f8bd8793"), looks := false }, kinds := [], alts := [], laidByText := true, laidKinds := [.data, .pinned], laidTests := true, laidLooks := .later }
def StateFindsUptoCardSaid : Prop := Claim7.holds Tryd.pinned (.plain (OpenSpec.upto stateFindsSpec)) stateFindsUptoCard
end Rows
end Go.Proofs.YtefjoigngnnbjaaDoor
