/- Cells that may be too full: their mass all the same. -/
import Derived.Test.YtpagagbokinjiaaSpPhase
set_option linter.unusedSimpArgs false
set_option linter.unusedVariables false
namespace Go.Sy
def wkC (c : Cel) : Bool := decide (0 ≤ c.e ∧ 0 ≤ c.n ∧ 0 ≤ c.w ∧ 0 ≤ c.s ∧ c.e + c.n + c.w + c.s ≤ 4000000000)
def wkL (l : List Cel) : Bool := l.all wkC
theorem wkL_iff {l : List Cel} : wkL l = true ↔ ∀ c ∈ l, 0 ≤ c.e ∧ 0 ≤ c.n ∧ 0 ≤ c.w ∧ 0 ≤ c.s ∧ c.e + c.n + c.w + c.s ≤ 4000000000 := by
  unfold wkL wkC; rw [List.all_eq_true]; simp only [decide_eq_true_eq]
theorem wk_of_ok {l : List Cel} (h : okL l = true) : wkL l = true := wkL_iff.2 fun c hc => by
  have := Cel.ok_iff.1 (okL_iff.1 h c hc); omega
theorem wk_mass : ∀ {cs : List Cel}, (∀ c ∈ cs, 0 ≤ c.e ∧ 0 ≤ c.n ∧ 0 ≤ c.w ∧ 0 ≤ c.s ∧ c.e + c.n + c.w + c.s ≤ 4000000000) → 0 ≤ massL cs ∧ massL cs ≤ 4000000000 * cs.length
  | [], _ => by simp [massL]
  | c :: cs, h => by
    have h1 := h c (by simp)
    have h2 := wk_mass fun x hx => h x (List.mem_cons_of_mem c hx)
    simp only [massL, List.length_cons, Cel.m]
    omega
theorem wk_step {cs : List Cel} (h : wkL cs = true) {k : Nat} (hk : k < cs.length) : massL (cs.take (k + 1)) = massL (cs.take k) + (cs.getD k default).m ∧ 0 ≤ massL (cs.take k) ∧ massL (cs.take k) ≤ 4000000000 * k ∧
    (0 ≤ (cs.getD k default).e ∧ 0 ≤ (cs.getD k default).n ∧ 0 ≤ (cs.getD k default).w ∧ 0 ≤ (cs.getD k default).s ∧ (cs.getD k default).e + (cs.getD k default).n + (cs.getD k default).w + (cs.getD k default).s ≤ 4000000000) := by
  have h := wkL_iff.1 h
  have h1 := wk_mass (cs := cs.take k) fun c hc => h c (List.mem_of_mem_take hc)
  rw [take_snoc cs default hk, massL_app]
  refine ⟨by simp only [massL]; omega, h1.1, ?_, h _ (getD_mem default hk)⟩
  have : (cs.take k).length = k := by simp; omega
  rw [this] at h1; exact h1.2
theorem wk_addC {xs ys : List Cel} (hl : xs.length = ys.length) (hx : okL xs = true) (hy : okL ys = true) : wkL (addC xs ys) = true := wkL_iff.2 fun c hc => by
  obtain ⟨i, hi, rfl⟩ := List.mem_map.1 hc
  have hi := List.mem_range.1 hi
  have fx := Cel.ok_iff.1 (okL_iff.1 hx _ (getD_mem default hi))
  have fy := Cel.ok_iff.1 (okL_iff.1 hy _ (getD_mem default (show i < ys.length by omega)))
  simp only [Cel.add]; omega
theorem wk_set {cs : List Cel} (h : wkL cs = true) {k : Nat} {v : Cel} (hv : 0 ≤ v.e ∧ 0 ≤ v.n ∧ 0 ≤ v.w ∧ 0 ≤ v.s ∧ v.e + v.n + v.w + v.s ≤ 4000000000) : wkL (cs.set k v) = true := wkL_iff.2 fun c hc => by
  rcases List.mem_or_eq_of_mem_set hc with hc | rfl
  · exact wkL_iff.1 h c hc
  · exact hv
end Go.Sy
