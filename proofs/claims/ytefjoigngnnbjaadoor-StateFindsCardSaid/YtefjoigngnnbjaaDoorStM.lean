/- The contract of SameWrong. -/
import Derived.Test.YtefjoigngnnbjaaDoorStK
import Derived.Laws.StructEq
namespace Go.Proofs.YtefjoigngnnbjaaDoor
set_option linter.unusedSimpArgs false
set_option linter.unusedVariables false
open Go.RowKit

theorem vio_eql (x y : Vio) (w : World) : (binOp .eql 68 (.agg #[.int .i64 x.kind, .string (bs x.name), .bool x.pre, .int .i64 x.i, .string (bs x.other)]) (.agg #[.int .i64 y.kind, .string (bs y.name), .bool y.pre, .int .i64 y.i, .string (bs y.other)])).run Tryd.prog w = .ok (.bool (decide (x = y))) w := by
  have u3 := Tryd.underlying3
  have u4 := Tryd.underlying4
  have u9 := Tryd.underlying9
  have a3 := Tryd.isAgg3
  have z3 := Tryd.sizeOf3
  have a4 := Tryd.isAgg4
  have z4 := Tryd.sizeOf4
  have a9 := Tryd.isAgg9
  have z9 := Tryd.sizeOf9
  have hS : Tryd.prog.underlying 68 = some (.struct (Tryd.prog.fieldsOf 68)) := by kernel_rfl
  have hp : Tryd.prog.stoodInHeld 68 = false := by kernel_rfl
  rw [run_eql_struct, show (10000 : Nat) = 9999 + 1 from rfl, run_equalIn_agg w 9999 68 _ _ hS hp]
  simp only [Program.fieldsOf, Tryd.underlying68]
  go_simp
  obtain ⟨a, b, c, d, e⟩ := x
  obtain ⟨a', b', c', d', e'⟩ := y
  by_cases h1 : a = a' <;> by_cases h2 : b = b' <;> by_cases h3 : c = c' <;> by_cases h4 : d = d' <;> by_cases h5 : e = e' <;> simp [h1, h2, h3, h4, h5]
theorem vio_neq (x y : Vio) (w : World) : (binOp .neq 68 (.agg #[.int .i64 x.kind, .string (bs x.name), .bool x.pre, .int .i64 x.i, .string (bs x.other)]) (.agg #[.int .i64 y.kind, .string (bs y.name), .bool y.pre, .int .i64 y.i, .string (bs y.other)])).run Tryd.prog w = .ok (.bool (!decide (x = y))) w := by
  have h := vio_eql x y w
  rw [run_eql_struct] at h
  rw [run_neq_struct]
  revert h
  generalize (Op.equalIn 10000 68 _ _).run Tryd.prog w = r
  cases r with
  | ok b w' =>
    simp only [Result.andThen_ok]
    intro h
    injection h with h1 h2
    injection h1 with h1
    rw [h1, h2]
  | halt h w' => intro h; cases h
theorem takeV_ext {α : Type} {l m : List α} {k : Nat} {x : α} (hx : l[k]? = some x) (hy : m[k]? = some x) (h : l.take k = m.take k) : l.take (k + 1) = m.take (k + 1) := by
  rw [take_step hx, take_step hy, h]
end Go.Proofs.YtefjoigngnnbjaaDoor
