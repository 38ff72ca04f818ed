/- A region that draws its order, only reads, and whose calls leave what was there: walked once, in the order of the text (the kit's theorem wp_region_quiet at the class of all worlds behind this one). -/
import Derived.Test.YtcbomomlojhghaaDoorPk
import Derived.Deep.QuietTactic
namespace Go.Proofs.YtcbomomlojhghaaDoor
set_option linter.unusedSimpArgs false
set_option linter.unusedVariables false
open Go.RowKit

/-- a world behind w -/
structure Be (w : World) where
  w' : World
  h : Below w.heap.size w w'
instance (w : World) : Inhabited (Be w) := ⟨⟨w, Below.refl _ _⟩⟩
theorem region_be {P : Program} {id : Nat} {Q : Exit → Act → World → Prop} {a : Act} {w : World} {l : List Oper} (hm : P.follows .mixedOrders = true) (hB : Region.lexB .any l.toArray = true)
    (h : wpQuiet P l.toArray (fun w' => ∃ p : Be w, w' = p.w') (fun a' => ∀ w', (∃ p : Be w, w' = p.w') → Q .normal a' w') l a) : (Code.region id l.toArray true).wp P Q a w :=
  wp_region_quiet (C := fun w' => ∃ p : Be w, w' = p.w') hm hB ⟨⟨w.drew, (Below.refl _ _).drew⟩, rfl⟩ (by simpa using h)
theorem Calls.be_of {P : Program} {f : FuncId} {args : Array Value} {w : World} {p : Be w} {v : Value} (h : Calls P f args p.w' fun e w'' => e = .returned v ∧ Below p.w'.heap.size p.w' w'') :
    Calls P f args p.w' fun e w'' => e = .returned v ∧ ∃ q : Be w, w'' = q.w' :=
  h.mono fun _ w2 ⟨he, hb⟩ => ⟨he, ⟨w2, p.h.trans (hb.mono p.h.size)⟩, rfl⟩
theorem Be.cell {w : World} {a : Addr} {v : Value} (h : w.cell? a = some v) (p : Be w) : p.w'.cell? a = some v := Kept.of_below p.h a v h
theorem Be.kept {w : World} (p : Be w) : Kept w p.w' := Kept.of_below p.h
end Go.Proofs.YtcbomomlojhghaaDoor
