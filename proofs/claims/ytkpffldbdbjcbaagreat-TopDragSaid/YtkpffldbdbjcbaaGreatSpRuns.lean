/- Many steps; periods; cells told part by part. -/
import Derived.Test.YtkpffldbdbjcbaaGreatSpMove
import Derived.Test.YtkpffldbdbjcbaaGreatSpRule
set_option linter.unusedSimpArgs false
set_option linter.unusedVariables false
set_option linter.unusedSectionVars false
namespace Go.Sy

/-! ### Cells whose parts are told one after the other -/
section
variable {n : Nat} {F : Nat → Cel} {k : Nat} (hk : k < n) {v : Int}
include hk
end
/-! ### Steps, one after the other -/
/-! ### Periods -/
end Go.Sy

/- Runs of a grid by a list of rules. -/
set_option linter.unusedSimpArgs false
set_option linter.unusedVariables false
set_option linter.unusedSectionVars false
namespace Go.Sy
def rho (l : List Rul) (t : Int) (k : Nat) : Rul := l.getD ((t + (k : Int)).tmod (l.length : Int)).toNat default
def timesP (t n : Int) : Prop := (0 ≤ t ∧ t ≤ 1000000) ∧ (0 ≤ n ∧ n ≤ 1000) ∧ (0 < n → t + n - 1 ≤ 1000000)
instance (t n : Int) : Decidable (timesP t n) := by unfold timesP; exact inferInstance
theorem rho_ok {l : List Rul} (h : rulesB l = true) {t : Int} (ht : 0 ≤ t) (k : Nat) : (rho l t k).ok = true ∧ 0 ≤ (t + (k : Int)).tmod (l.length : Int) ∧ (t + (k : Int)).tmod (l.length : Int) < l.length := by
  obtain ⟨⟨h1, h2⟩, h3⟩ := rulesB_iff.1 h
  have hm := mod_len (s := t + (k : Int)) (n := l.length) (by omega) h1
  exact ⟨getD_ok h3 hm.2.2, hm.1, hm.2.1⟩
end Go.Sy
