/- Cells that may be too full: their mass all the same. -/
import Derived.Test.YtiapmjdoohgjnaaSpPhase
set_option linter.unusedSimpArgs false
set_option linter.unusedVariables false
namespace Go.Sy
def wkC (c : Cel) : Bool := decide (0 ≤ c.e ∧ 0 ≤ c.n ∧ 0 ≤ c.w ∧ 0 ≤ c.s ∧ c.e + c.n + c.w + c.s ≤ 4000000000)
def wkL (l : List Cel) : Bool := l.all wkC
theorem wkL_iff {l : List Cel} : wkL l = true ↔ ∀ c ∈ l, 0 ≤ c.e ∧ 0 ≤ c.n ∧ 0 ≤ c.w ∧ 0 ≤ c.s ∧ c.e + c.n + c.w + c.s ≤ 4000000000 := by
  unfold wkL wkC; rw [List.all_eq_true]; simp only [decide_eq_true_eq]
theorem wk_of_ok {l : List Cel} (h : okL l = true) : wkL l = true := wkL_iff.2 fun c hc => by
  have := Cel.ok_iff.1 (okL_iff.1 h c hc); omega
end Go.Sy
