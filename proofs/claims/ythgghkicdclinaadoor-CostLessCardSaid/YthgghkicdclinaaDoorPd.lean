/- A cost that came in, as Cst. -/
import Derived.Test.YthgghkicdclinaaDoorPc
import Derived.Test.YthgghkicdclinaaDoorStT
namespace Go.Proofs.YthgghkicdclinaaDoor
set_option linter.unusedSimpArgs false
set_option linter.unusedVariables false
open Go.RowKit Go.ChangeShapes Go.WideShapes Go.Deep
section
variable {H : Type} {enc : TypeId × Value → H} {w : World} {v : Value} {d : DataW H} {p : List MemPlace}
set_option maxRecDepth 100000 in
theorem Cost.of_arg {b : Nat} (hv : Value.okWide Tryd.prog w .any b 43 v) (h : DataW.Trod enc Tryd.prog w 0 (fun _ => true) true 43 v d p) (_ : Lite Tryd.prog 43 d) : ∃ l : Cst, v = .agg #[.int .i64 l.a, .int .i64 l.b, .int .i64 l.c, .int .i64 l.d, .int .i64 l.e] := by
  obtain ⟨a0, a1, a2, a3, a4, rfl⟩ := Cost.of_arg5 hv h
  exact ⟨⟨a0, a1, a2, a3, a4⟩, rfl⟩
end
end Go.Proofs.YthgghkicdclinaaDoor
