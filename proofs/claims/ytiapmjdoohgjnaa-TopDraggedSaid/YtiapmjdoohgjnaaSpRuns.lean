/- Many steps; periods; cells told part by part. -/
import Derived.Test.YtiapmjdoohgjnaaSpMove
import Derived.Test.YtiapmjdoohgjnaaSpRule
set_option linter.unusedSimpArgs false
set_option linter.unusedVariables false
set_option linter.unusedSectionVars false
namespace Go.Sy

/-! ### Cells whose parts are told one after the other -/
def cutC (d : Nat) (c : Cel) : Cel := ⟨if 0 < d then c.e else 0, if 1 < d then c.n else 0, if 2 < d then c.w else 0, if 3 < d then c.s else 0⟩
def qpart (n : Nat) (F : Nat → Cel) (k d : Nat) : List Cel := tab n fun j => if j < k then F j else if j = k then cutC d (F j) else ⟨0, 0, 0, 0⟩
theorem qpart_length (n : Nat) (F : Nat → Cel) (k d : Nat) : (qpart n F k d).length = n := tab_length _ _
section
variable {n : Nat} {F : Nat → Cel} {k : Nat} (hk : k < n) {v : Int}
include hk
end
theorem revC_tab (cs : List Cel) : tab cs.length (fun j => (cs.getD j default).rev) = revC cs := by
  apply List.ext_getElem?
  intro i
  by_cases h : i < cs.length
  · simp [tab, revC, h]
  · simp [tab, revC, h]
theorem revC_length (cs : List Cel) : (revC cs).length = cs.length := by simp [revC]
theorem revC_prog {cs : List Cel} (h : okL cs = true) {k : Nat} (hk : cs.length ≤ k) : prog (fun j => ((cs.getD j default).turned 2).1) k cs = revC cs := by
  rw [prog_full _ _ hk, ← revC_tab]
  refine List.map_congr_left fun i hi => ?_
  have ho := okL_at h (List.mem_range.1 hi)
  simp only [Cel.turned, ho, if_true]
  rfl
def revG (g : Grd) : Grd := if g.ok then ⟨g.w, g.h, revC g.cs⟩ else ⟨0, 0, []⟩
theorem rev_ways (g : Grd) : (g.ok = false ∧ g.err = 1 ∧ revG g = ⟨0, 0, []⟩) ∨ (g.ok = true ∧ g.err = 0 ∧ revG g = ⟨g.w, g.h, revC g.cs⟩ ∧ (1 ≤ g.cs.length ∧ g.cs.length ≤ 1024) ∧ ∀ k, k < g.cs.length → (g.cs.getD k default).ok = true) := by
  cases h : g.ok
  · exact .inl ⟨rfl, by simp [Grd.err, h], by simp [revG, h]⟩
  · have := gok_bds h
    exact .inr ⟨rfl, by simp [Grd.err, h], by simp [revG, h], by omega, fun k hk => okL_at (gok_okL h) hk⟩
/-! ### Steps, one after the other -/
/-! ### Periods -/
theorem prog_upd (G : Cel → Cel) {xs : List Cel} {k : Nat} (hk : k < xs.length) : prog (fun j => G (xs.getD j default)) (k + 1) xs = (prog (fun j => G (xs.getD j default)) k xs).set k (G ((prog (fun j => G (xs.getD j default)) k xs).getD k default)) := by
  rw [prog_getD _ _ _ hk, if_neg (Nat.lt_irrefl k)]
  exact (prog_set _ _ _ rfl).symm
end Go.Sy

/- Runs of a grid by a list of rules. -/
set_option linter.unusedSimpArgs false
set_option linter.unusedVariables false
set_option linter.unusedSectionVars false
namespace Go.Sy
def rho (l : List Rul) (t : Int) (k : Nat) : Rul := l.getD ((t + (k : Int)).tmod (l.length : Int)).toNat default
def timesP (t n : Int) : Prop := (0 ≤ t ∧ t ≤ 1000000) ∧ (0 ≤ n ∧ n ≤ 1000) ∧ (0 < n → t + n - 1 ≤ 1000000)
instance (t n : Int) : Decidable (timesP t n) := by unfold timesP; exact inferInstance
theorem rho_ok {l : List Rul} (h : rulesB l = true) {t : Int} (ht : 0 ≤ t) (k : Nat) : (rho l t k).ok = true ∧ 0 ≤ (t + (k : Int)).tmod (l.length : Int) ∧ (t + (k : Int)).tmod (l.length : Int) < l.length := by
  obtain ⟨⟨h1, h2⟩, h3⟩ := rulesB_iff.1 h
  have hm := mod_len (s := t + (k : Int)) (n := l.length) (by omega) h1
  exact ⟨getD_ok h3 hm.2.2, hm.1, hm.2.1⟩
end Go.Sy
