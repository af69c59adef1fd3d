/- Lists of rules. -/
import Derived.Test.YtfoacdhlfaonaaaSpOrder
set_option linter.unusedSimpArgs false
set_option linter.unusedVariables false
namespace Go.Sy
end Go.Sy
