/- A slice of strings that came in, opened. -/
import Derived.Test.YtflmocamfedbdaaGreatDoorPz
import Derived.Test.YtflmocamfedbdaaGreatDoorNl
namespace Go.Proofs.YtflmocamfedbdaaGreatDoor
set_option linter.unusedSimpArgs false
set_option linter.unusedVariables false
open Go.RowKit Go.ChangeShapes Go.WideShapes Go.Deep
section
variable {H : Type} {enc : TypeId × Value → H} {w : World} {v : Value} {d : DataW H} {p : List MemPlace}
set_option maxRecDepth 100000 in
theorem Strs.of_arg {r : Reach} {b : Nat} {spare : Nat → Bool} {held : Bool} (hv : Value.okWide Tryz.prog w r b 51 v) (h : DataW.Trod enc Tryz.prog w 0 spare held 51 v d p) (hw : Lite Tryz.prog 51 d) : ∃ A c l, v = .slice A l.length c ∧ Strs w A c l := by
  obtain ⟨fuel, hf⟩ := h
  obtain ⟨A, c, l, he, hs⟩ := slc_open (R := RStr) (k := 1) (z := 16) Tryz.underlying51 (by kernel_rfl) (by decide) (by kernel_rfl) (fun _ _ _ h _ => by
    obtain ⟨k, h1, _⟩ := DataW.trod_string Tryz.underlying9 h
    exact ⟨k.data.toList, h1⟩) hf hw
  exact ⟨A, c, l, slice_cells (P := Tryz.prog) (t := 51) (e := 9) Tryz.underlying51 hv he, hs⟩
end
end Go.Proofs.YtflmocamfedbdaaGreatDoor
