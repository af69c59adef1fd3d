/- Gauges: what they tell; blurred, joined. -/
import Derived.Test.YtiapmjdoohgjnaaSyK
set_option linter.unusedSimpArgs false
set_option linter.unusedVariables false
namespace Go.Sy
/-- A gauge's spans and steps lie in their ranges. -/
def Gau.Ok (u : Gau) : Prop := ((-1000000000 ≤ u.bl ∧ u.bl ≤ u.bh ∧ u.bh ≤ 1000000000) ∧ (-1000000000 ≤ u.il ∧ u.il ≤ u.ih ∧ u.ih ≤ 1000000000)) ∧ ((-1000000000 ≤ u.ol ∧ u.ol ≤ u.oh ∧ u.oh ≤ 1000000000) ∧ (-1000000000 ≤ u.al ∧ u.al ≤ u.ah ∧ u.ah ≤ 1000000000)) ∧ (0 ≤ u.f ∧ u.f < u.t ∧ u.t ≤ 1000000)
instance (u : Gau) : Decidable u.Ok := by unfold Gau.Ok; infer_instance
def Gau.ok (u : Gau) : Bool := decide u.Ok
def Gau.lo (u : Gau) : Int := u.bl + u.il - u.oh - u.ah
def Gau.hi (u : Gau) : Int := u.bh + u.ih - u.ol - u.al
end Go.Sy
