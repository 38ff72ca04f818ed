/- The contracts of the reference's Part and of what it calls. -/
import Derived.Test.YtcbomomlojhghaaDoorVerC
import Derived.Test.YtcbomomlojhghaaDoorVq
namespace Go.Proofs.YtcbomomlojhghaaDoor
set_option linter.unusedSimpArgs false
set_option linter.unusedVariables false
open Go.RowKit

end Go.Proofs.YtcbomomlojhghaaDoor
