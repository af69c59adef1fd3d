/- Values that lie in two new blocks. -/
import Derived.Test.YtiapmjdoohgjnaaSyZ
set_option linter.unusedSimpArgs false
set_option linter.unusedVariables false
namespace Go.Sy
open Go.RowKit
end Go.Sy
