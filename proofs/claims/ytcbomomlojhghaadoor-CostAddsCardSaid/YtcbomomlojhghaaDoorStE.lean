/- The contract of the reference's Met. -/
import Derived.Test.YtcbomomlojhghaaDoorStD
namespace Go.Proofs.YtcbomomlojhghaaDoor
set_option linter.unusedSimpArgs false
set_option linter.unusedVariables false
open Go.RowKit

end Go.Proofs.YtcbomomlojhghaaDoor
