/- Values that lie in two new blocks. -/
import Derived.Test.YtkpffldbdbjcbaaGreatSyZ
set_option linter.unusedSimpArgs false
set_option linter.unusedVariables false
namespace Go.Sy
open Go.RowKit
theorem spare_mine {hq : List HB} (hm : allMine hq) {b : HB} (hb : b ∈ hq) : b.spare := by
  obtain ⟨h1, h2⟩ := allMine_mem hm b hb
  refine ⟨?_, h1⟩
  by_cases hc : ∃ g, b.cl g
  · exact .inl (h2 hc)
  · exact .inr fun g hg => hc ⟨g, hg⟩
end Go.Sy
