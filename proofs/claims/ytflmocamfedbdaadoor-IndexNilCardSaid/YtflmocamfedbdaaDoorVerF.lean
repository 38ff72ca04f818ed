/- The contracts of the reference's Part and of what it calls. -/
import Derived.Test.YtflmocamfedbdaaDoorVerC
import Derived.Test.YtflmocamfedbdaaDoorMk
namespace Go.Proofs.YtflmocamfedbdaaDoor
set_option linter.unusedSimpArgs false
set_option linter.unusedVariables false
open Go.RowKit

end Go.Proofs.YtflmocamfedbdaaDoor
