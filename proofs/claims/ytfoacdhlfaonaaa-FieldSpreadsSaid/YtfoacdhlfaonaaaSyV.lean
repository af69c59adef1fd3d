/- Blocks told in another order, and all that points at them told anew. -/
import Derived.Test.YtfoacdhlfaonaaaSyZ
set_option linter.unusedSimpArgs false
set_option linter.unusedVariables false
namespace Go.Sy
open Go.RowKit
end Go.Sy
