/- Two lists of rules in one. -/
import Derived.Test.YtkpffldbdbjcbaaGreatSyO
set_option linter.unusedSimpArgs false
set_option linter.unusedVariables false
namespace Go.Sy
open Go.RowKit Go.ChangeShapes Go.WideShapes Go.ChangeAt
structure Rls where
  c : List Rul
  x : List Rul
section
variable {H : Type} {enc : TypeId × Value → H} {P : Program} {w : World} {base : Nat} {spare : Nat → Bool} {held : Bool}
end
end Go.Sy
