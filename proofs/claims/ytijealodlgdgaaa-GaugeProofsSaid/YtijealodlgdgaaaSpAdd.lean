/- Sums and parts of cells. -/
import Derived.Test.YtijealodlgdgaaaSpTurn
set_option linter.unusedSimpArgs false
set_option linter.unusedVariables false
namespace Go.Sy
theorem tdiv_lo {n : Int} (h : 0 ≤ n) (h1 : n ≤ 9000000000) : -9223372036854775808 ≤ n.tdiv 4 := by rw [Int.tdiv_eq_ediv_of_nonneg h]; omega
theorem tdiv_hi {n : Int} (h : 0 ≤ n) (h1 : n ≤ 9000000000) : n.tdiv 4 ≤ 9223372036854775807 := by rw [Int.tdiv_eq_ediv_of_nonneg h]; omega
theorem Cel.parts {c : Cel} (h : c.ok = true) :
    Cel.zero.added (c.part 0) = (c.part 0, 0) ∧ (c.part 0).added (c.part 1) = ((c.part 0).add (c.part 1), 0) ∧ ((c.part 0).add (c.part 1)).added (c.part 2) = (((c.part 0).add (c.part 1)).add (c.part 2), 0) ∧
      (((c.part 0).add (c.part 1)).add (c.part 2)).added (c.part 3) = (c, 0) ∧ c.err = 0 := by
  have hf := Cel.ok_iff.1 h
  have e : ∀ k : Int, 0 ≤ k → k ≤ 3 → c.part k = ⟨(c.e + 3 - k) / 4, (c.n + 3 - k) / 4, (c.w + 3 - k) / 4, (c.s + 3 - k) / 4⟩ := fun k h0 h1 => by
    unfold Cel.part
    rw [if_pos h, Int.tdiv_eq_ediv_of_nonneg (by omega), Int.tdiv_eq_ediv_of_nonneg (by omega), Int.tdiv_eq_ediv_of_nonneg (by omega), Int.tdiv_eq_ediv_of_nonneg (by omega)]
  have k0 : Cel.ok (c.part 0) = true := by rw [e 0 (by omega) (by omega), Cel.ok_iff]; simp only; omega
  have k1 : Cel.ok (c.part 1) = true := by rw [e 1 (by omega) (by omega), Cel.ok_iff]; simp only; omega
  have k2 : Cel.ok (c.part 2) = true := by rw [e 2 (by omega) (by omega), Cel.ok_iff]; simp only; omega
  have k3 : Cel.ok (c.part 3) = true := by rw [e 3 (by omega) (by omega), Cel.ok_iff]; simp only; omega
  have z : Cel.ok Cel.zero = true := by decide
  have z0 : Cel.zero.add (c.part 0) = c.part 0 := by rw [Cel.eq_iff]; simp [Cel.add, Cel.zero]
  have s1 : Cel.ok ((c.part 0).add (c.part 1)) = true := by rw [e 0 (by omega) (by omega), e 1 (by omega) (by omega), Cel.ok_iff]; simp only [Cel.add]; omega
  have s2 : Cel.ok (((c.part 0).add (c.part 1)).add (c.part 2)) = true := by rw [e 0 (by omega) (by omega), e 1 (by omega) (by omega), e 2 (by omega) (by omega), Cel.ok_iff]; simp only [Cel.add]; omega
  have s3 : (((c.part 0).add (c.part 1)).add (c.part 2)).add (c.part 3) = c := by rw [e 0 (by omega) (by omega), e 1 (by omega) (by omega), e 2 (by omega) (by omega), e 3 (by omega) (by omega), Cel.eq_iff]; simp only [Cel.add]; omega
  refine ⟨?_, ?_, ?_, ?_, ?_⟩
  · simp [Cel.added, z, k0, z0]
  · simp [Cel.added, k0, k1, s1]
  · simp [Cel.added, s1, k2, s2]
  · simp [Cel.added, s2, k3, s3, h]
  · simp [Cel.err, h]
end Go.Sy
