/- Grids shifted, turned, mirrored, reversed. -/
import Derived.Test.YtkpffldbdbjcbaaGreatSpStep
import Derived.Test.YtkpffldbdbjcbaaGreatSpOrder
set_option linter.unusedSimpArgs false
set_option linter.unusedVariables false
set_option linter.unusedSectionVars false
namespace Go.Sy

/-! ### Cells laid one by one at places of their own -/
structure Bij (n : Nat) (σ τ : Nat → Nat) : Prop where
  s : ∀ i, i < n → σ i < n
  t : ∀ i, i < n → τ i < n
  ts : ∀ i, i < n → τ (σ i) = i
  st : ∀ i, i < n → σ (τ i) = i
theorem Bij.symm {n : Nat} {σ τ : Nat → Nat} (h : Bij n σ τ) : Bij n τ σ := ⟨h.t, h.s, h.st, h.ts⟩
section
variable {w h : Int} (hw : 0 < w) (hh : 0 < h)
include hw hh
end
section
variable {w h : Int} (hw : 0 < w) (hh : 0 < h) {n : Nat} (hn : (n : Int) = w * h)
include hw hh hn
end
/-! ### What the movements come to -/
end Go.Sy
