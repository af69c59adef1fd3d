/- Many steps; periods; cells told part by part. -/
import Derived.Test.YtkaebgfhbgicfaaSpMove
import Derived.Test.YtkaebgfhbgicfaaSpRule
set_option linter.unusedSimpArgs false
set_option linter.unusedVariables false
set_option linter.unusedSectionVars false
namespace Go.Sy

/-! ### Cells whose parts are told one after the other -/
section
variable {n : Nat} {F : Nat → Cel} {k : Nat} (hk : k < n) {v : Int}
end
/-! ### Steps, one after the other -/
/-! ### Periods -/
theorem gne_w {a b : Grd} (h : a.w ≠ b.w) : decide (a = b) = false := decide_eq_false fun e => h (by rw [e])
theorem gne_h {a b : Grd} (h : a.h ≠ b.h) : decide (a = b) = false := decide_eq_false fun e => h (by rw [e])
end Go.Sy
