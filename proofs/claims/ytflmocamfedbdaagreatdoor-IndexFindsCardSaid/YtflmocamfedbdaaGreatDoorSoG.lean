/- A row returned, only its block turned. -/
import Derived.Test.YtflmocamfedbdaaGreatDoorSp
import Derived.Test.YtflmocamfedbdaaGreatDoorMk
import Derived.Test.YtflmocamfedbdaaGreatDoorSoI
import Derived.BigRegion
namespace Go.Proofs.YtflmocamfedbdaaGreatDoor
set_option linter.unusedSimpArgs false
set_option linter.unusedVariables false
open Go.RowKit
/-- a row returned: only its block turned -/
def RetRow {α : Type} (w : World) (B : Nat) (e : TypeId) (k : Nat) (R : List Value → α → Prop) (g n cap : Nat) (l : List α) (x : Ending) (w' : World) : Prop :=
  x = .returned (.tuple #[]) ∧ Own w' B e k R (.slice (some ⟨g, 0, none⟩) n cap) l ∧ w.grownBy w' (some g)
theorem Own.nextG {w w1 w0 : World} {g : Nat} (hg : w0.grownBy w (some g)) (hb : Below w.heap.size w w1) : w0.grownBy w1 (some g) := only_next hg hb
/-- only block g turned, twice -/
theorem grown_trans {a b c : World} {g : Nat} (h1 : a.grownBy b (some g)) (h2 : b.grownBy c (some g)) : a.grownBy c (some g) :=
  ⟨h2.os.trans h1.os, h2.tape.trans h1.tape, h2.output.trans h1.output, Nat.le_trans h1.size h2.size, fun i hi hne => (h2.block i (Nat.lt_of_lt_of_le hi h1.size) hne).trans (h1.block i hi hne)⟩
theorem grown_refl (w : World) (r : Option Nat) : w.grownBy w r := ⟨rfl, rfl, rfl, Nat.le_refl _, fun _ _ _ => rfl⟩
end Go.Proofs.YtflmocamfedbdaaGreatDoor
