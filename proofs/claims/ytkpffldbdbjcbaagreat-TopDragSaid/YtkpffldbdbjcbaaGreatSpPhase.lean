/- Two phases on one grid: masses, momentum, sums. -/
import Derived.Test.YtkpffldbdbjcbaaGreatSyK
import Derived.Test.YtkpffldbdbjcbaaGreatSpGrid
set_option linter.unusedSimpArgs false
set_option linter.unusedVariables false
namespace Go.Sy
theorem Mix.eta (x : Mix) : (⟨x.w, x.h, x.a, x.b⟩ : Mix) = x := rfl
def Mix.ga (x : Mix) : Grd := ⟨x.w, x.h, x.a⟩
def Mix.gb (x : Mix) : Grd := ⟨x.w, x.h, x.b⟩
def Mix.ok (x : Mix) : Bool := x.ga.ok && (x.gb.ok && decide (massL x.a + massL x.b ≤ 1000000000))
def Mix.err (x : Mix) : Int := if x.ok then 0 else 1
end Go.Sy
