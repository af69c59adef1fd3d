/- Numbers in a row, turned round in place. -/
import Derived.Test.YtokeaplbmlpkdaaGreatSpRuns
set_option linter.unusedSimpArgs false
set_option linter.unusedVariables false
set_option linter.unusedSectionVars false
namespace Go.Sy
/-! ### Numbers in a row, turned round in place -/
theorem bak_r2 {l : List Rul} {t z : Int} {k : Nat} (hk : k < z.toNat) : l.getD ((t + (z - 1 - (k : Int))).tmod (l.length : Int)).toNat default = rho l t (z.toNat - 1 - k) := by
  unfold rho
  rw [show t + (z - 1 - (k : Int)) = t + ((z.toNat - 1 - k : Nat) : Int) by omega]
end Go.Sy
