/- The contracts of met, of both texts. -/
import Derived.Test.YtcbomomlojhghaaDoorStC
namespace Go.Proofs.YtcbomomlojhghaaDoor
set_option linter.unusedSimpArgs false
set_option linter.unusedVariables false
open Go.RowKit

theorem met_swap (cl : List Atm) (l : List Pkg) : (cl.any fun a => l.any fun p => satS p a) = metS cl l := by
  unfold metS
  rw [Bool.eq_iff_iff]
  simp only [List.any_eq_true]
  exact ⟨fun ⟨a, ha, p, hp, h⟩ => ⟨p, hp, a, ha, h⟩, fun ⟨p, hp, a, ha, h⟩ => ⟨a, ha, p, hp, h⟩⟩
end Go.Proofs.YtcbomomlojhghaaDoor
