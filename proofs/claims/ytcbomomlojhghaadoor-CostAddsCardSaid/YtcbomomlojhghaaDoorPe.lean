/- A package, an atom that came in, opened. -/
import Derived.Test.YtcbomomlojhghaaDoorPo
import Derived.Test.YtcbomomlojhghaaDoorPa
import Derived.OpenShut
namespace Go.Proofs.YtcbomomlojhghaaDoor
set_option linter.unusedSimpArgs false
set_option linter.unusedVariables false
open Go.RowKit Go.ChangeShapes Go.WideShapes Go.Deep
section
variable {H : Type} {enc : TypeId × Value → H} {w : World} {v : Value} {d : DataW H} {p : List MemPlace}
set_option maxRecDepth 100000 in
theorem Pkg.of_arg {r : Reach} {b : Nat} {spare : Nat → Bool} {held : Bool} (hv : Value.okWide Tryd.prog w r b 28 v) (h : DataW.Trod enc Tryd.prog w 0 spare held 28 v d p) (hw : Lite Tryd.prog 28 d) :
    ∃ (rk : Raw) (l : Pkg), v = (.agg #[.string (bs (l).name), .string (bs (l).ver), .slice (rk).a1 (l).pre.length (rk).c1, .slice (rk).a2 (l).dep.length (rk).c2, .slice (rk).a3 (l).rcm.length (rk).c3, .slice (rk).a4 (l).con.length (rk).c4, .slice (rk).a5 (l).brk.length (rk).c5, .slice (rk).a6 (l).prv.length (rk).c6, .bool (l).ess]) ∧ RP w rk l := by
  obtain ⟨fuel, hf⟩ := h
  obtain ⟨l, rk, he, hr⟩ := pkg_open hf hw
  unfold Value.okWide at hv
  rw [Tryd.underlying28] at hv
  obtain ⟨cs, rfl, _⟩ := hv
  simp only [Value.cells] at he
  refine ⟨rk, l, ?_, hr⟩
  obtain ⟨cs⟩ := cs
  simp only at he
  subst he
  rfl
set_option maxRecDepth 100000 in
theorem Atm.of_arg {r : Reach} {b : Nat} {spare : Nat → Bool} {held : Bool} (hv : Value.okWide Tryd.prog w r b 99 v) (h : DataW.Trod enc Tryd.prog w 0 spare held 99 v d p) (hw : Lite Tryd.prog 99 d) :
    ∃ l : Atm, v = (.agg #[.string (bs (l).name), .int .i64 (l).rel, .string (bs (l).ver)]) ∧ l.ok := by
  obtain ⟨fuel, hf⟩ := h
  obtain ⟨l, he, hr⟩ := atm_open hf hw
  unfold Value.okWide at hv
  rw [Tryd.underlying99] at hv
  obtain ⟨cs, rfl, _⟩ := hv
  simp only [Value.cells] at he
  refine ⟨l, ?_, hr⟩
  obtain ⟨cs⟩ := cs
  simp only at he
  subst he
  rfl
end
end Go.Proofs.YtcbomomlojhghaaDoor
