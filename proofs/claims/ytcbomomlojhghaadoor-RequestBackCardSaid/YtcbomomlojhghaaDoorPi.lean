/- A slice of bytes that came in, opened; and the two listed tables, as the walks read them. -/
import Derived.Test.YtcbomomlojhghaaDoorPo
import Derived.Test.YtcbomomlojhghaaDoorPa
import Derived.Test.YtcbomomlojhghaaDoorSb
import Derived.Lib.LaidU8
namespace Go.Proofs.YtcbomomlojhghaaDoor
set_option linter.unusedSimpArgs false
set_option linter.unusedVariables false
open Go.RowKit Go.ChangeShapes Go.WideShapes Go.Deep
theorem u8_is {n : Int} (h : (Lit.int .u8 n).wf = true) : ∃ c : UInt8, n = (c.toNat : Int) := by
  have hn : 0 ≤ n ∧ n < 256 := by
    have h1 : IntKind.u8.min = 0 := by decide
    have h2 : IntKind.u8.max = 255 := by decide
    simp [Lit.wf, h1, h2] at h
    omega
  refine ⟨UInt8.ofNat n.toNat, ?_⟩
  rw [UInt8.toNat_ofNat']
  omega
section
variable {H : Type} {enc : TypeId × Value → H} {w : World} {v : Value} {d : DataW H} {p : List MemPlace}
set_option maxRecDepth 100000 in
theorem Bts.of_arg {r : Reach} {b : Nat} {spare : Nat → Bool} {held : Bool} (hv : Value.okWide Tryd.prog w r b 41 v) (h : DataW.Trod enc Tryd.prog w 0 spare held 41 v d p) (hw : Lite Tryd.prog 41 d) : ∃ A c l, v = .slice A l.length c ∧ Bts w A c l := by
  obtain ⟨fuel, hf⟩ := h
  obtain ⟨A, c, l, he, hs⟩ := slc_open (R := RByt) (k := 1) (z := 1) Tryd.underlying41 (by kernel_rfl) (by decide) (by kernel_rfl) (fun _ _ _ h _ => by
    obtain ⟨n, h1, _, h2⟩ := DataW.trod_int Tryd.underlying5 h
    obtain ⟨c, rfl⟩ := u8_is h2
    exact ⟨c, h1⟩) hf hw
  exact ⟨A, c, l, slice_cells (P := Tryd.prog) (t := 41) (e := 5) Tryd.underlying41 hv he, hs⟩
end
theorem tabs_of {W : World} {laid : List (String × DataW Unit)} (hL : laidMet Tryd.prog laid W) (h1 : ("unicode/utf8.first", Lib.firstData) ∈ laid) (h2 : ("unicode/utf8.acceptRanges", Lib.acceptData) ∈ laid) : Lib.Utf8Tabs 0 1 W :=
  utf8Tabs_of_reads (ρ := Tryd.lays197_ren) { Tryd.lays197 with } ⟨by kernel_rfl, by kernel_rfl, by kernel_rfl, by kernel_rfl, by kernel_rfl, by kernel_rfl, by kernel_rfl⟩ (Lib.laidMet.reads hL h1) (Lib.laidMet.reads hL h2)
end Go.Proofs.YtcbomomlojhghaaDoor
