/- Less is an order (plain); five cells of a block. -/
import Derived.Test.YthgghkicdclinaaDoorStX
namespace Go.Proofs.YthgghkicdclinaaDoor
set_option linter.unusedSimpArgs false
set_option linter.unusedVariables false
open Go.RowKit
theorem cmpL_cons (a b : Int) (l m : List Int) : cmpL (a :: l) (b :: m) < 0 ↔ a < b ∨ (a = b ∧ cmpL l m < 0) := by
  show (if Lib.compareInt a b = 0 then cmpL l m else Lib.compareInt a b) < 0 ↔ _
  unfold Lib.compareInt
  by_cases h1 : a < b
  · simp [h1]
  · by_cases h2 : a > b
    · simp [h1, h2]
      omega
    · have : a = b := by omega
      simp [this]
theorem lessC_iff (x y : Cst) : lessC x y = true ↔ x.a < y.a ∨ (x.a = y.a ∧ (x.b < y.b ∨ (x.b = y.b ∧ (x.c < y.c ∨ (x.c = y.c ∧ (x.d < y.d ∨ (x.d = y.d ∧ x.e < y.e))))))) := by
  unfold lessC Cst.l
  rw [decide_eq_true_eq, cmpL_cons, cmpL_cons, cmpL_cons, cmpL_cons, cmpL_cons]
  simp [cmpL]
theorem lessC_self (x : Cst) : lessC x x = false := by
  rw [← Bool.not_eq_true, lessC_iff]; omega
theorem lessC_anti {x y : Cst} (h : lessC x y = true) : lessC y x = false := by
  rw [lessC_iff] at h; rw [← Bool.not_eq_true, lessC_iff]; omega
theorem lessC_trans {x y z : Cst} (h : lessC x y = true) (k : lessC y z = true) : lessC x z = true := by
  rw [lessC_iff] at *; omega
theorem lessC_eq {x y : Cst} (h : lessC x y = false) (k : lessC y x = false) : x = y := by
  rw [← Bool.not_eq_true, lessC_iff] at h k
  obtain ⟨a, b, c, d, e⟩ := x
  obtain ⟨a', b', c', d', e'⟩ := y
  simp only [Cst.mk.injEq]
  dsimp only at h k
  omega
theorem blk5 {w : World} {g t : Nat} {v0 v1 v2 v3 v4 : Value} (h : Blk w g t #[v0, v1, v2, v3, v4]) : w.cell? ⟨g, 0, none⟩ = some v0 ∧ w.cell? ⟨g, 1, none⟩ = some v1 ∧ w.cell? ⟨g, 2, none⟩ = some v2 ∧ w.cell? ⟨g, 3, none⟩ = some v3 ∧ w.cell? ⟨g, 4, none⟩ = some v4 := ⟨h.cell 0, h.cell 1, h.cell 2, h.cell 3, h.cell 4⟩
end Go.Proofs.YthgghkicdclinaaDoor
