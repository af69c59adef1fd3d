/- Many steps; periods; cells told part by part. -/
import Derived.Test.YtokeaplbmlpkdaaGreatSpMove
import Derived.Test.YtokeaplbmlpkdaaGreatSpRule
set_option linter.unusedSimpArgs false
set_option linter.unusedVariables false
set_option linter.unusedSectionVars false
namespace Go.Sy

/-! ### Cells whose parts are told one after the other -/
section
variable {n : Nat} {F : Nat → Cel} {k : Nat} (hk : k < n) {v : Int}
include hk
end
/-! ### Steps, one after the other -/
def runC (w h : Int) (ρ : Nat → Rul) (cs : List Cel) : Nat → List Cel
  | 0 => cs
  | k + 1 => flow w h 1 (aft (ρ k) (runC w h ρ cs k))
def bakC (w h : Int) (ρ : Nat → Rul) (cs : List Cel) : Nat → List Cel
  | 0 => cs
  | k + 1 => aft (ρ k).inv (flow w h (-1) (bakC w h ρ cs k))
theorem runC_ok {g : Grd} {ρ : Nat → Rul} (h : g.ok = true) (hr : ∀ k, (ρ k).ok = true) : ∀ k, (⟨g.w, g.h, runC g.w g.h ρ g.cs k⟩ : Grd).ok = true
  | 0 => h
  | k + 1 => gok_flow (g := ⟨g.w, g.h, aft (ρ k) (runC g.w g.h ρ g.cs k)⟩) 1 (gok_aft (hr k) (runC_ok h hr k))
theorem bakC_front (w h : Int) (ρ : Nat → Rul) (cs : List Cel) : ∀ k, bakC w h ρ cs (k + 1) = bakC w h (fun i => ρ (i + 1)) (aft (ρ 0).inv (flow w h (-1) cs)) k
  | 0 => rfl
  | k + 1 => by rw [bakC, bakC_front w h ρ cs k, bakC]
theorem bakC_congr {w h : Int} {ρ σ : Nat → Rul} {cs : List Cel} : ∀ {n : Nat}, (∀ i, i < n → ρ i = σ i) → bakC w h ρ cs n = bakC w h σ cs n
  | 0, _ => rfl
  | n + 1, hi => by rw [bakC, bakC, bakC_congr fun i h => hi i (by omega), hi n (by omega)]
theorem undone {g : Grd} {ρ : Nat → Rul} (h : g.ok = true) (hr : ∀ k, (ρ k).ok = true) : ∀ n, bakC g.w g.h (fun i => ρ (n - 1 - i)) (runC g.w g.h ρ g.cs n) n = g.cs
  | 0 => rfl
  | n + 1 => by
    rw [bakC_front]
    have e := Grd.back_step (runC_ok h hr n) (hr n)
    simp only [Grd.back, Grd.step, Grd.mk.injEq, true_and] at e
    rw [show n + 1 - 1 - 0 = n by omega, runC, e]
    refine Eq.trans (bakC_congr fun i hi => ?_) (undone h hr n)
    show ρ (n + 1 - 1 - (i + 1)) = ρ (n - 1 - i)
    rw [show n + 1 - 1 - (i + 1) = n - 1 - i by omega]
/-! ### Periods -/
end Go.Sy
