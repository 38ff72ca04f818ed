/- A step that came in, opened: its texts are not too long. -/
import Derived.Test.YtaicidbopgnmfaaGreatDoorPy
namespace Go.Proofs.YtaicidbopgnmfaaGreatDoor
set_option linter.unusedSimpArgs false
set_option linter.unusedVariables false
open Go.RowKit Go.ChangeShapes Go.WideShapes Go.Deep
section
variable {H : Type} {enc : TypeId × Value → H} {w : World} {spare : Nat → Bool} {held : Bool} {fuel : Nat} {cs : List Value} {x : DataW H × List MemPlace}
theorem stp_open2 (h : DataW.trod enc Tryz.prog w 0 spare held fuel 24 cs = some x) (hw : Lite Tryz.prog 24 x.1) : ∃ a, RStp cs a ∧ short a.name ∧ short a.ver := by
  obtain ⟨hl, n, hf⟩ := fields_open Tryz.underlying24 (by kernel_rfl) (by kernel_rfl) h hw
  obtain ⟨v0, y0, c0, t0, w0⟩ := hf 0 _ rfl
  obtain ⟨v1, y1, c1, t1, w1⟩ := hf 1 _ rfl
  obtain ⟨v2, y2, c2, t2, w2⟩ := hf 2 _ rfl
  obtain ⟨k0, rfl⟩ := int_open Tryz.underlying3 t0
  obtain ⟨l1, rfl, s1⟩ := str_open Tryz.underlying9 t1 w1
  obtain ⟨l2, rfl, s2⟩ := str_open Tryz.underlying9 t2 w2
  match cs, hl with
  | [c0', c1', c2'], _ =>
    simp at c0 c1 c2
    subst c0 c1 c2
    exact ⟨⟨k0, l1, l2⟩, rfl, s1, s2⟩
end
section
variable {H : Type} {enc : TypeId × Value → H} {w : World} {v : Value} {d : DataW H} {p : List MemPlace}
set_option maxRecDepth 100000 in
theorem Stp.of_arg2 {r : Reach} {b : Nat} {spare : Nat → Bool} {held : Bool} (hv : Value.okWide Tryz.prog w r b 24 v) (h : DataW.Trod enc Tryz.prog w 0 spare held 24 v d p) (hw : Lite Tryz.prog 24 d) :
    ∃ (k : Int) (n m : List UInt8), v = .agg #[.int .i64 k, .string (bs n), .string (bs m)] ∧ short n ∧ short m := by
  obtain ⟨fuel, hf⟩ := h
  obtain ⟨l, he, s1, s2⟩ := stp_open2 hf hw
  unfold Value.okWide at hv
  rw [Tryz.underlying24] at hv
  obtain ⟨cs, rfl, _⟩ := hv
  simp only [Value.cells] at he
  refine ⟨l.kind, l.name, l.ver, ?_, s1, s2⟩
  obtain ⟨cs⟩ := cs
  unfold RStp at he
  simp only at he
  subst he
  rfl
end
end Go.Proofs.YtaicidbopgnmfaaGreatDoor
