/- Plainly: who is found, and where; few packages. -/
import Derived.Test.YtcbomomlojhghaaDoorStS
namespace Go.Proofs.YtcbomomlojhghaaDoor
set_option linter.unusedSimpArgs false
set_option linter.unusedVariables false
open Go.RowKit
theorem fnd_idx (n : List UInt8) (t : List Pkg) : (fndS n t = none ∧ idxS (nameK n) t = -1) ∨ ∃ (i : Nat) (y : Pkg), i < t.length ∧ t[i]? = some y ∧ fndS n t = some y ∧ idxS (nameK n) t = (i : Int) := by
  unfold idxS
  rcases h : t.findIdx? (nameK n) with _ | i
  · left
    rw [List.findIdx?_eq_none_iff] at h
    exact ⟨fnd_no (by rw [List.any_eq_false]; intro x hx; rw [h x hx]; simp), rfl⟩
  · right
    rw [List.findIdx?_eq_some_iff_getElem] at h
    obtain ⟨h1, h2, h3⟩ := h
    refine ⟨i, t[i], h1, List.getElem?_eq_getElem h1, ?_, rfl⟩
    refine fnd_at (List.getElem?_eq_getElem h1) h2 ?_
    rw [List.any_eq_false]
    intro x hx
    obtain ⟨j, hj, rfl⟩ := List.mem_take_iff_getElem.1 hx
    exact h3 j (by omega)
theorem light_fewP {N K C : Nat} (hK : K ≤ 1000000) {l : List Pkg} (h : lightS N K C l = true) : fewP l := by
  simp only [lightS, Bool.and_eq_true, decide_eq_true_eq, List.all_eq_true] at h
  refine ⟨by omega, fun x hx => ?_⟩
  have := h.2 x hx
  simp only [lgtP, lgtC, Bool.and_eq_true, decide_eq_true_eq] at this
  omega
end Go.Proofs.YtcbomomlojhghaaDoor
