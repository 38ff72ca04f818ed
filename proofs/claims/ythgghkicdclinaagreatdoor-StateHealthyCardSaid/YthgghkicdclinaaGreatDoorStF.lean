/- The contracts of bare: the packages of entries. -/
import Derived.Test.YthgghkicdclinaaGreatDoorStE
import Derived.Test.YthgghkicdclinaaGreatDoorOw
namespace Go.Proofs.YthgghkicdclinaaGreatDoor
set_option linter.unusedSimpArgs false
set_option linter.unusedVariables false
open Go.RowKit

/-- a slice of packages is returned -/
def RetPkgs (w : World) (l : List Pkg) (e : Ending) (w' : World) : Prop := ∃ A c, e = .returned (.slice A l.length c) ∧ Pkgs w' A c l ∧ Below w.heap.size w w'
theorem infPkg : (Tryz.prog.info? 30).map (fun i => (i.zero, i.size, i.bytes)) = some (some (.agg #[.string (bs []), .string (bs []), .slice none 0 0, .slice none 0 0, .slice none 0 0, .slice none 0 0, .slice none 0 0, .slice none 0 0, .bool false]), 9, 184) := by kernel_rfl
theorem ret_pkgs {w w' : World} {B k : Nat} {v : Value} {l : List Pkg} (h : Own w' w.heap.size B 9 (RPkg w) v l) (hb : Below w.heap.size w w') (hl : l.length * 184 ≤ 140737488351232) : RetPkgs w l (.returned v) w' := by
  obtain ⟨A, c, rfl, hs⟩ := h.slc hl
  exact ⟨A, c, rfl, Slc.mono hs (Kept.refl _) (fun _ _ h => h.kept (Kept.of_below hb)), hb⟩
end Go.Proofs.YthgghkicdclinaaGreatDoor
