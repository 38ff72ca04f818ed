/- The contract of the reference's Version, joined. -/
import Derived.Test.YtflmocamfedbdaaDoorVerC
namespace Go.Proofs.YtflmocamfedbdaaDoor
set_option linter.unusedSimpArgs false
set_option linter.unusedVariables false
open Go.RowKit
end Go.Proofs.YtflmocamfedbdaaDoor
