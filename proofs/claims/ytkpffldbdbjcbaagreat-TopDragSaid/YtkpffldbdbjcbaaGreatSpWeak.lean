/- Cells that may be too full: their mass all the same. -/
import Derived.Test.YtkpffldbdbjcbaaGreatSpPhase
set_option linter.unusedSimpArgs false
set_option linter.unusedVariables false
namespace Go.Sy
def wkC (c : Cel) : Bool := decide (0 ≤ c.e ∧ 0 ≤ c.n ∧ 0 ≤ c.w ∧ 0 ≤ c.s ∧ c.e + c.n + c.w + c.s ≤ 4000000000)
def wkL (l : List Cel) : Bool := l.all wkC
theorem wkL_iff {l : List Cel} : wkL l = true ↔ ∀ c ∈ l, 0 ≤ c.e ∧ 0 ≤ c.n ∧ 0 ≤ c.w ∧ 0 ≤ c.s ∧ c.e + c.n + c.w + c.s ≤ 4000000000 := by
  unfold wkL wkC; rw [List.all_eq_true]; simp only [decide_eq_true_eq]
theorem wk_of_ok {l : List Cel} (h : okL l = true) : wkL l = true := wkL_iff.2 fun c hc => by
  have := Cel.ok_iff.1 (okL_iff.1 h c hc); omega
theorem wk_mass : ∀ {cs : List Cel}, (∀ c ∈ cs, 0 ≤ c.e ∧ 0 ≤ c.n ∧ 0 ≤ c.w ∧ 0 ≤ c.s ∧ c.e + c.n + c.w + c.s ≤ 4000000000) → 0 ≤ massL cs ∧ massL cs ≤ 4000000000 * cs.length
  | [], _ => by simp [massL]
  | c :: cs, h => by
    have h1 := h c (by simp)
    have h2 := wk_mass fun x hx => h x (List.mem_cons_of_mem c hx)
    simp only [massL, List.length_cons, Cel.m]
    omega
theorem wk_step {cs : List Cel} (h : wkL cs = true) {k : Nat} (hk : k < cs.length) : massL (cs.take (k + 1)) = massL (cs.take k) + (cs.getD k default).m ∧ 0 ≤ massL (cs.take k) ∧ massL (cs.take k) ≤ 4000000000 * k ∧
    (0 ≤ (cs.getD k default).e ∧ 0 ≤ (cs.getD k default).n ∧ 0 ≤ (cs.getD k default).w ∧ 0 ≤ (cs.getD k default).s ∧ (cs.getD k default).e + (cs.getD k default).n + (cs.getD k default).w + (cs.getD k default).s ≤ 4000000000) := by
  have h := wkL_iff.1 h
  have h1 := wk_mass (cs := cs.take k) fun c hc => h c (List.mem_of_mem_take hc)
  rw [take_snoc cs default hk, massL_app]
  refine ⟨by simp only [massL]; omega, h1.1, ?_, h _ (getD_mem default hk)⟩
  have : (cs.take k).length = k := by simp; omega
  rw [this] at h1; exact h1.2
end Go.Sy
