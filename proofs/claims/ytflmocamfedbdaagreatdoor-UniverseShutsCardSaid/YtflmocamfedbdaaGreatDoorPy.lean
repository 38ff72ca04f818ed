/- A slice of bools that came in, opened. A slice of strings that came in, opened. -/
import Derived.Test.YtflmocamfedbdaaGreatDoorPz
import Derived.Test.YtflmocamfedbdaaGreatDoorNl
namespace Go.Proofs.YtflmocamfedbdaaGreatDoor
set_option linter.unusedSimpArgs false
set_option linter.unusedVariables false
open Go.RowKit Go.ChangeShapes Go.WideShapes Go.Deep
def RBool (cs : List Value) (b : Bool) : Prop := cs = [.bool b]
def Bols (w : World) (A : Option Addr) (c : Nat) (l : List Bool) : Prop := Slc w 1 1 RBool A c l
theorem Bols.kept {w w' : World} {A : Option Addr} {c : Nat} {l : List Bool} (h : Bols w A c l) (hk : Kept w w') : Bols w' A c l := Slc.mono h hk fun _ _ h => h
theorem Bols.at_ {w w' : World} {A : Option Addr} {c : Nat} {l : List Bool} {i : Nat} (h : Bols w A c l) (hi : i < l.length) (hk : Kept w w') : ∃ x b o, l[i]? = some x ∧ A = some ⟨b, o, none⟩ ∧ w'.cell? ⟨b, o + i, none⟩ = some (.bool x) := by
  obtain ⟨x, b, o, cs, h1, h2, rfl, _, h4⟩ := Slc.at_ h hi
  refine ⟨x, b, o, h1, h2, ?_⟩
  have := rangeAt_kept hk h4 0 _ rfl
  simpa using this
section
variable {H : Type} {enc : TypeId × Value → H} {w : World} {v : Value} {d : DataW H} {p : List MemPlace}
set_option maxRecDepth 100000 in
theorem Bools.of_arg {r : Reach} {b : Nat} {spare : Nat → Bool} {held : Bool} (hv : Value.okWide Tryz.prog w r b 74 v) (h : DataW.Trod enc Tryz.prog w 0 spare held 74 v d p) (hw : Lite Tryz.prog 74 d) : ∃ A c l, v = .slice A l.length c ∧ Bols w A c l := by
  obtain ⟨fuel, hf⟩ := h
  obtain ⟨A, c, l, he, hs⟩ := slc_open (R := RBool) (k := 1) (z := 1) Tryz.underlying74 (by kernel_rfl) (by decide) (by kernel_rfl) (fun _ _ _ h _ => by
    obtain ⟨k, h1, _⟩ := DataW.trod_bool Tryz.underlying4 h
    exact ⟨k, h1⟩) hf hw
  exact ⟨A, c, l, slice_cells (P := Tryz.prog) (t := 74) (e := 4) Tryz.underlying74 hv he, hs⟩
end
end Go.Proofs.YtflmocamfedbdaaGreatDoor
namespace Go.Proofs.YtflmocamfedbdaaGreatDoor
set_option linter.unusedSimpArgs false
set_option linter.unusedVariables false
open Go.RowKit Go.ChangeShapes Go.WideShapes Go.Deep
section
variable {H : Type} {enc : TypeId × Value → H} {w : World} {v : Value} {d : DataW H} {p : List MemPlace}
set_option maxRecDepth 100000 in
theorem Strs.of_arg {r : Reach} {b : Nat} {spare : Nat → Bool} {held : Bool} (hv : Value.okWide Tryz.prog w r b 51 v) (h : DataW.Trod enc Tryz.prog w 0 spare held 51 v d p) (hw : Lite Tryz.prog 51 d) : ∃ A c l, v = .slice A l.length c ∧ Strs w A c l := by
  obtain ⟨fuel, hf⟩ := h
  obtain ⟨A, c, l, he, hs⟩ := slc_open (R := RStr) (k := 1) (z := 16) Tryz.underlying51 (by kernel_rfl) (by decide) (by kernel_rfl) (fun _ _ _ h _ => by
    obtain ⟨k, h1, _⟩ := DataW.trod_string Tryz.underlying9 h
    exact ⟨k.data.toList, h1⟩) hf hw
  exact ⟨A, c, l, slice_cells (P := Tryz.prog) (t := 51) (e := 9) Tryz.underlying51 hv he, hs⟩
end
end Go.Proofs.YtflmocamfedbdaaGreatDoor
