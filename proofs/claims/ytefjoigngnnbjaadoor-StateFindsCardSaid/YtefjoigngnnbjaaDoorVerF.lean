/- The contracts of the reference's Part and of what it calls. -/
import Derived.Test.YtefjoigngnnbjaaDoorVerC
import Derived.Test.YtefjoigngnnbjaaDoorMk
namespace Go.Proofs.YtefjoigngnnbjaaDoor
set_option linter.unusedSimpArgs false
set_option linter.unusedVariables false
open Go.RowKit

end Go.Proofs.YtefjoigngnnbjaaDoor
