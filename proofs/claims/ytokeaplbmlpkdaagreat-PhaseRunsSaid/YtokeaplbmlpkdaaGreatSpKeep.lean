/- Runs put together and undone; steps kept. -/
import Derived.Test.YtokeaplbmlpkdaaGreatSpMoves
set_option linter.unusedSimpArgs false
set_option linter.unusedVariables false
set_option linter.unusedSectionVars false
namespace Go.Sy
/-! ### Streamed back by the machine's own steps -/
theorem turn_inv {r : Rul} (h : r.ok = true) (hk : r.k ≠ 2) : r.inv = r := by
  have h2 := Rul.ok_iff.1 h
  unfold Rul.inv
  obtain ⟨k, b⟩ := r
  simp only at *
  have : b = 0 := by omega
  subst this; rfl
/-! ### Steps and movements change places -/
section
variable {w h : Int} (hw : 0 < w) (hh : 0 < h) {cs : List Cel} (hl : (cs.length : Int) = w * h)
include hw hh hl
end
end Go.Sy
