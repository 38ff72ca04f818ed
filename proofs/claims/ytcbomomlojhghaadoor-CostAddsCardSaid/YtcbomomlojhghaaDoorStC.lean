/- The contract of the reference's Satisfies. -/
import Derived.Test.YtcbomomlojhghaaDoorStB
namespace Go.Proofs.YtcbomomlojhghaaDoor
set_option linter.unusedSimpArgs false
set_option linter.unusedVariables false
open Go.RowKit

theorem holds_empty (rel : Int) (b : List UInt8) : holdsS rel [] b = false := by
  have h1 : isV [] = false := rfl
  have h2 : verS [] = none := rfl
  simp [holdsS, cmpV, h1, h2]
end Go.Proofs.YtcbomomlojhghaaDoor
