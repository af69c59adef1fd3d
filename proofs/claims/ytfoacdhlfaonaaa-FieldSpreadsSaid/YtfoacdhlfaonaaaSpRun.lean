/- Many steps; periods; cells told part by part. -/
import Derived.Test.YtfoacdhlfaonaaaSpMove
import Derived.Test.YtfoacdhlfaonaaaSpRule
set_option linter.unusedSimpArgs false
set_option linter.unusedVariables false
set_option linter.unusedSectionVars false
namespace Go.Sy

/-! ### Cells whose parts are told one after the other -/
section
variable {n : Nat} {F : Nat → Cel} {k : Nat} (hk : k < n) {v : Int}
include hk
end
/-! ### Steps, one after the other -/
/-! ### Periods -/
end Go.Sy
