/- What shifting, turning, mirroring a grid tell. -/
import Derived.Test.YtokeaplbmlpkdaaGreatSpRuns
set_option linter.unusedSimpArgs false
set_option linter.unusedVariables false
set_option linter.unusedSectionVars false
namespace Go.Sy
end Go.Sy
