/- A name has no white space, plainly. -/
import Derived.Test.YtcbomomlojhghaaDoorWd
import Derived.Test.YtcbomomlojhghaaDoorVb
namespace Go.Proofs.YtcbomomlojhghaaDoor
set_option linter.unusedSimpArgs false
set_option linter.unusedVariables false
theorem name_black {l : List UInt8} (h : nameS l = true) : l ≠ [] ∧ ∀ c ∈ l, whB c = false := by
  unfold nameS at h
  simp only [Bool.and_eq_true, decide_eq_true_eq] at h
  refine ⟨fun e => by rw [e] at h; simp at h, fun c hc => ?_⟩
  have hC : nmC c = true := by
    rcases l with _ | ⟨d, l⟩
    · cases hc
    · have h2 := h.2
      unfold nmOk at h2
      rw [Bool.and_eq_true] at h2
      rcases List.mem_cons.1 hc with rfl | hc
      · exact nmB_C h2.1
      · exact List.all_eq_true.1 h2.2 c hc
  rcases hw : whB c
  · rfl
  · unfold whB at hw
    simp only [Bool.or_eq_true, beq_iff_eq] at hw
    rcases hw with rfl | rfl <;> simp [nmC, nmB, smlB, digB] at hC
end Go.Proofs.YtcbomomlojhghaaDoor
