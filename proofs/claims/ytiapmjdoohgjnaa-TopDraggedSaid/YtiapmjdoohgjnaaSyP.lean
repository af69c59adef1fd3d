/- Frames: back from a function that turned some blocks and laid some new ones. -/
import Derived.Test.YtiapmjdoohgjnaaSyN
import Derived.Test.YtiapmjdoohgjnaaSyV
set_option linter.unusedSimpArgs false
set_option linter.unusedVariables false
namespace Go.Sy
open Go.RowKit
/-- The new blocks, each with its place. -/
def FN (hq : List HB) : List Nat → List HB → Prop
  | p :: ps, n :: ns => (∃ c, hq[p]? = some c ∧ n.like c ∧ (c.own = true ∨ ∀ g, c.cl g → n.cl g)) ∧ FN hq ps ns
  | [], [] => True
  | _, _ => False
/-! ### Blocks that are only looked at -/
/-! ### Before a loop: a block of cells is pulled into its place -/
theorem Wk.canonL {P : Program} {X : Env P} {r : Option Nat} {Q : Post} {t : List It} {ds : List Nat} {fr : List (Nat × SV)} {hp : List HB} {x : Code} {id : Nat} (q ty : Nat) (hq : kdAt hp q ty = true) (f : List (Nat × Nat)) (ps : List (Nat × Nat))
    (h : ∀ K' : List (Nat × SV) → List HB → Prop, (∀ fr' hq, Wk X r Q (.c (.loop x) :: .b id :: t) ds fr' hq → K' fr' hq) → pullK hp ps fun hq => K' (renF (renOf f) fr) (renH (renOf f) hq)) : Wk X r Q (.c (.loop x) :: .b id :: t) ds fr hp := Wk.canon q ty hq f ps h
end Go.Sy
