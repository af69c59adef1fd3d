/- Numbers in a row, turned round in place. -/
import Derived.Test.YtghflfilemhaoaaSpRuns
set_option linter.unusedSimpArgs false
set_option linter.unusedVariables false
set_option linter.unusedSectionVars false
namespace Go.Sy
/-! ### Numbers in a row, turned round in place -/
def numL (t : Int) (n : Nat) : List Int := (List.range n).map fun (i : Nat) => t + (i : Int)
theorem numL_length (t : Int) (n : Nat) : (numL t n).length = n := by simp [numL]
theorem numL_snoc (t : Int) (n : Nat) : numL t (n + 1) = numL t n ++ [t + (n : Int)] := by
  unfold numL; rw [List.range_succ, List.map_append]; rfl
def swp (t : Int) (n k : Nat) : List Int := (List.range n).map fun (p : Nat) => if p < k ∨ n - k ≤ p then t + ((n - 1 - p : Nat) : Int) else t + (p : Int)
theorem swp_length (t : Int) (n k : Nat) : (swp t n k).length = n := by simp [swp]
theorem swp_zero (t : Int) (n : Nat) : swp t n 0 = numL t n := by
  refine List.map_congr_left fun p hp => ?_
  have := List.mem_range.1 hp
  rw [if_neg (by omega)]
theorem swp_at {t : Int} {n k p : Nat} (hp : p < n) : (swp t n k).getD p 0 = if p < k ∨ n - k ≤ p then t + ((n - 1 - p : Nat) : Int) else t + (p : Int) := by
  simp [swp, List.getD, hp]
theorem swp_end {t : Int} {n k p : Nat} (hk : n ≤ 2 * k + 1) (hp : p < n) : (swp t n k).getD p 0 = t + ((n - 1 - p : Nat) : Int) := by
  rw [swp_at hp]
  split
  · rfl
  · rename_i h
    have : n - 1 - p = p := by omega
    rw [this]
theorem swp_step {t : Int} {n k : Nat} (hk : 2 * k + 1 < n) : swp t n (k + 1) = ((swp t n k).set k ((swp t n k).getD (n - 1 - k) 0)).set (n - 1 - k) ((swp t n k).getD k 0) := by
  rw [swp_at (show n - 1 - k < n by omega), swp_at (show k < n by omega), if_neg (by omega), if_neg (by omega)]
  apply List.ext_getElem?
  intro p
  rw [List.getElem?_set, List.getElem?_set]
  by_cases hp : p < n
  · by_cases h1 : n - 1 - k = p
    · subst h1
      simp only [List.length_set, swp_length, hp, if_true]
      simp [swp, hp]
      have e1 : n - 1 - (n - 1 - k) = k := by omega
      rw [if_pos (by omega), e1]
    · by_cases h2 : k = p
      · subst h2
        rw [if_neg h1, if_pos rfl, if_pos (by rw [swp_length]; omega)]
        simp [swp, hp]
      · rw [if_neg h1, if_neg h2]
        simp only [swp, List.getElem?_map, List.getElem?_range hp, Option.map_some, Option.some.injEq]
        have : (p < k + 1 ∨ n - (k + 1) ≤ p) ↔ (p < k ∨ n - k ≤ p) := by omega
        simp only [this]
  · rw [if_neg (by omega), if_neg (by omega)]
    simp [swp, hp]
/-- The rule of a step that is undone. -/
theorem bak_rule {l : List Rul} {t : Int} {n r k : Nat} (hr : n ≤ 2 * r + 1) (hk : k < n) : l.getD (((swp t n r).getD k 0).tmod (l.length : Int)).toNat default = rho l t (n - 1 - k) := by
  rw [swp_end hr hk]; rfl
theorem bak_r2 {l : List Rul} {t z : Int} {k : Nat} (hk : k < z.toNat) : l.getD ((t + (z - 1 - (k : Int))).tmod (l.length : Int)).toNat default = rho l t (z.toNat - 1 - k) := by
  unfold rho
  rw [show t + (z - 1 - (k : Int)) = t + ((z.toNat - 1 - k : Nat) : Int) by omega]
end Go.Sy
