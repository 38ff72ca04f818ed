/- From what an argument reads as to what the walks say of it: strings, ints, bools. -/
import Derived.Test.YtcbomomlojhghaaDoorPo
import Derived.ChangeMaps5
import Derived.Carry
namespace Go.Proofs.YtcbomomlojhghaaDoor
set_option linter.unusedSimpArgs false
set_option linter.unusedVariables false
open Go.RowKit Go.ChangeShapes Go.WideShapes Go.Deep
theorem laidOut : laidOutB Tryd.prog = true := by kernel_rfl
section
variable {H : Type} {enc : TypeId × Value → H} {w : World} {v : Value} {d : DataW H} {p : List MemPlace} {b : Nat}
set_option maxRecDepth 100000 in
theorem Str.of_arg (hv : Value.okWide Tryd.prog w .any b 9 v) (h : DataW.Trod enc Tryd.prog w 0 (fun _ => true) true 9 v d p) (hw : Lite Tryd.prog 9 d) : ∃ l, v = .string (bs l) ∧ short l := by
  obtain ⟨s, rfl, rfl, _, hs⟩ := Go.ChangeMaps.open_string Tryd.underlying9 hv h
  exact ⟨s.data.toList, rfl, hw s.data.toList.length (by simp [DataW.weights])⟩
set_option maxRecDepth 100000 in
theorem Int.of_arg (hv : Value.okWide Tryd.prog w .any b 3 v) (h : DataW.Trod enc Tryd.prog w 0 (fun _ => true) true 3 v d p) (_ : Lite Tryd.prog 3 d) : ∃ n : Int, v = .int .i64 n ∧ -9223372036854775808 ≤ n ∧ n ≤ 9223372036854775807 := by
  obtain ⟨n, rfl, _, _, hs⟩ := open_int Tryd.underlying3 hv h
  refine ⟨n, rfl, ?_⟩
  simpa [Lit.wf, IntKind.min, IntKind.max, IntKind.signed, IntKind.bits] using hs
set_option maxRecDepth 100000 in
theorem Bool.of_arg (hv : Value.okWide Tryd.prog w .any b 4 v) (h : DataW.Trod enc Tryd.prog w 0 (fun _ => true) true 4 v d p) (_ : Lite Tryd.prog 4 d) : ∃ n : Bool, v = .bool n := by
  obtain ⟨n, rfl, _, _⟩ := open_bool Tryd.underlying4 hv h
  exact ⟨n, rfl⟩
end
end Go.Proofs.YtcbomomlojhghaaDoor
