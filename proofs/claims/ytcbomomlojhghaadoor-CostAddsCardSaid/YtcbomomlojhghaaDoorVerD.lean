/- The contract of the reference's Version, joined. -/
import Derived.Test.YtcbomomlojhghaaDoorVerC
namespace Go.Proofs.YtcbomomlojhghaaDoor
set_option linter.unusedSimpArgs false
set_option linter.unusedVariables false
open Go.RowKit
set_option maxRecDepth 100000 in
theorem rversion_any (l : List UInt8) (w : World) :
    Calls Tryd.prog 53 #[.string (bs l)] w fun e w' => e = .returned (verW l) ∧ Below w.heap.size w w' := by
  by_cases h1 : l.length = 0 ∨ 48 < l.length
  · have HV := Lib.hid (verW_short h1)
    by_cases h0 : l = []
    · subst h0
      go_enter Tryd.func53, Tryd.ntmps53
      go_wp2
      (refine bodyPost_ret (results_tmp4 rfl _ _ _) rfl ?_)
      exact ⟨by rw [HV.out]; rfl, Below.refl _ _⟩
    · have hne : l.length ≠ 0 := fun h => h0 (List.eq_nil_of_length_eq_zero h)
      have h48 : 48 < l.length := by omega
      clear h1
      have hz : ((l.length : Int) == 0) = false := by rw [beq_eq_false_iff_ne]; omega
      clear h0 hne
      go_enter Tryd.func53, Tryd.ntmps53
      go_wp2_with fail
      all_goals go_ways
      (refine bodyPost_ret (results_tmp4 rfl _ _ _) rfl ?_)
      exact ⟨by rw [HV.out]; rfl, Below.refl _ _⟩
  · exact rversion_long l h1 w
end Go.Proofs.YtcbomomlojhghaaDoor
