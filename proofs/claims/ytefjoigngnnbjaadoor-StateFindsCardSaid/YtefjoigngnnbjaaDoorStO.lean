/- For any entries: the walk of StateWrong ends in true. -/
import Derived.Test.YtefjoigngnnbjaaDoorStN
namespace Go.Proofs.YtefjoigngnnbjaaDoor
set_option linter.unusedSimpArgs false
set_option linter.unusedVariables false
open Go.RowKit

theorem light_few {N K C : Nat} (hN : N ≤ 1000000) (hK : K ≤ 500000) {l : List Ent} (h : lightS N K C (l.map Ent.pkg) = true) : fewE l := by
  simp only [lightS, Bool.and_eq_true, decide_eq_true_eq, List.length_map, List.all_eq_true] at h
  refine ⟨by omega, fun x hx => ?_⟩
  have := h.2 x.pkg (List.mem_map_of_mem hx)
  simp only [lgtP, lgtC, Bool.and_eq_true, decide_eq_true_eq] at this
  omega
end Go.Proofs.YtefjoigngnnbjaaDoor
