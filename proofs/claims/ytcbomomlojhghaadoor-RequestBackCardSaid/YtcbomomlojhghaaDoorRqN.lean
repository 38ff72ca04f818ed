/- An ask, a slice of asks that came in, opened: their texts are not too long. -/
import Derived.Test.YtcbomomlojhghaaDoorStq
import Derived.Test.YtcbomomlojhghaaDoorPo
import Derived.Test.YtcbomomlojhghaaDoorPa
import Derived.OpenShut
namespace Go.Proofs.YtcbomomlojhghaaDoor
set_option linter.unusedSimpArgs false
set_option linter.unusedVariables false
open Go.RowKit Go.ChangeShapes Go.WideShapes Go.Deep
section
variable {H : Type} {enc : TypeId × Value → H} {w : World} {spare : Nat → Bool} {held : Bool} {fuel : Nat} {cs : List Value} {x : DataW H × List MemPlace}
theorem ask_open (h : DataW.trod enc Tryd.prog w 0 spare held fuel 78 cs = some x) (hw : Lite Tryd.prog 78 x.1) : ∃ a, RStp cs a ∧ short a.name ∧ short a.ver := by
  obtain ⟨hl, n, hf⟩ := fields_open Tryd.underlying78 (by kernel_rfl) (by kernel_rfl) h hw
  obtain ⟨v0, y0, c0, t0, w0⟩ := hf 0 _ rfl
  obtain ⟨v1, y1, c1, t1, w1⟩ := hf 1 _ rfl
  obtain ⟨v2, y2, c2, t2, w2⟩ := hf 2 _ rfl
  obtain ⟨k0, rfl⟩ := int_open Tryd.underlying3 t0
  obtain ⟨l1, rfl, s1⟩ := str_open Tryd.underlying9 t1 w1
  obtain ⟨l2, rfl, s2⟩ := str_open Tryd.underlying9 t2 w2
  match cs, hl with
  | [c0', c1', c2'], _ =>
    simp at c0 c1 c2
    subst c0 c1 c2
    exact ⟨⟨k0, l1, l2⟩, rfl, s1, s2⟩
end
section
variable {H : Type} {enc : TypeId × Value → H} {w : World} {v : Value} {d : DataW H} {p : List MemPlace}
set_option maxRecDepth 100000 in
theorem Ask.of_arg {r : Reach} {b : Nat} {spare : Nat → Bool} {held : Bool} (hv : Value.okWide Tryd.prog w r b 78 v) (h : DataW.Trod enc Tryd.prog w 0 spare held 78 v d p) (hw : Lite Tryd.prog 78 d) :
    ∃ (k : Int) (n m : List UInt8), v = .agg #[.int .i64 k, .string (bs n), .string (bs m)] ∧ short n ∧ short m := by
  obtain ⟨fuel, hf⟩ := h
  obtain ⟨l, he, s1, s2⟩ := ask_open hf hw
  unfold Value.okWide at hv
  rw [Tryd.underlying78] at hv
  obtain ⟨cs, rfl, _⟩ := hv
  simp only [Value.cells] at he
  refine ⟨l.kind, l.name, l.ver, ?_, s1, s2⟩
  obtain ⟨cs⟩ := cs
  unfold RStp at he
  simp only at he
  subst he
  rfl
set_option maxRecDepth 100000 in
theorem Asks.of_arg {r : Reach} {b : Nat} {spare : Nat → Bool} {held : Bool} (hv : Value.okWide Tryd.prog w r b 42 v) (h : DataW.Trod enc Tryd.prog w 0 spare held 42 v d p) (hw : Lite Tryd.prog 42 d) :
    ∃ A c l, v = .slice A l.length c ∧ Stps w A c l ∧ ∀ a ∈ l, short a.name := by
  obtain ⟨fuel, hf⟩ := h
  obtain ⟨A, c, l, he, hs⟩ := slc_open (R := fun cs a => RStp cs a ∧ short a.name ∧ short a.ver) (k := 3) (z := 40) Tryd.underlying42 (by kernel_rfl) (by decide) (by kernel_rfl) (fun _ _ _ h hw => ask_open h hw) hf hw
  refine ⟨A, c, l, slice_cells (P := Tryd.prog) (t := 42) (e := 78) Tryd.underlying42 hv he, Slc.mono hs (Kept.refl _) fun _ _ h => h.1, fun a ha => ?_⟩
  obtain ⟨i, hi, rfl⟩ := List.mem_iff_getElem.1 ha
  obtain ⟨y, b, o, cs, h1, _, ⟨_, h2, _⟩, _⟩ := Slc.at_ hs hi
  rw [List.getElem?_eq_getElem hi, Option.some.injEq] at h1
  rw [h1]
  exact h2
end
end Go.Proofs.YtcbomomlojhghaaDoor
