/- Runs of a grid by a list of rules. -/
import Derived.Test.YtfoacdhlfaonaaaSpRun
set_option linter.unusedSimpArgs false
set_option linter.unusedVariables false
set_option linter.unusedSectionVars false
namespace Go.Sy
def timesP (t n : Int) : Prop := (0 ≤ t ∧ t ≤ 1000000) ∧ (0 ≤ n ∧ n ≤ 1000) ∧ (0 < n → t + n - 1 ≤ 1000000)
instance (t n : Int) : Decidable (timesP t n) := by unfold timesP; exact inferInstance
end Go.Sy
