/- Turned and mirrored cells. -/
import Derived.Test.YtijealodlgdgaaaSpKept
set_option linter.unusedSimpArgs false
set_option linter.unusedVariables false
namespace Go.Sy
theorem bits_and3 (q : Int) : bits .and .i64 q 3 = q % 4 := by
  show IntKind.i64.wrap (((BitVec.ofInt 64 q &&& BitVec.ofInt 64 3).toNat : Nat) : Int) = _
  have h2 : (BitVec.ofInt 64 3).toNat = 2 ^ 2 - 1 := by decide
  have h1 : (BitVec.ofInt 64 q).toNat = (q % 18446744073709551616).toNat := by rw [BitVec.toNat_ofInt]; rfl
  rw [BitVec.toNat_and, h2, h1, Nat.and_two_pow_sub_one_eq_mod]
  have h0 := Int.emod_nonneg q (show (18446744073709551616 : Int) ≠ 0 by decide)
  have e : (((q % 18446744073709551616).toNat % 2 ^ 2 : Nat) : Int) = q % 4 := by omega
  rw [e]
  have : I64 (q % 4) := by constructor <;> omega
  exact this.wrap
theorem tmod4 (q : Int) : ∃ t : Int, q.tmod 4 = t ∧ -4 < t ∧ t < 4 ∧ ∀ d : Int, 0 ≤ d → d < 4 → (d + t + 4).tmod 4 = (d + q) % 4 := by
  have h : q.tmod 4 = q % 4 ∨ q.tmod 4 = q % 4 - 4 ∧ q % 4 ≠ 0 := by
    rw [Int.tmod_eq_emod]; split <;> omega
  generalize q.tmod 4 = t at h
  refine ⟨t, rfl, by omega, by omega, fun d h0 h1 => ?_⟩
  rw [Int.tmod_eq_emod_of_nonneg (by omega)]
  omega
theorem Cel.rot_ok (c : Cel) (k : Int) : (c.rot k).ok = c.ok := by
  unfold Cel.rot Cel.ok
  split
  · rfl
  · split
    · apply decide_eq_decide.2; simp only; omega
    · split
      · apply decide_eq_decide.2; simp only; omega
      · apply decide_eq_decide.2; simp only; omega
theorem Cel.mir_ok (c : Cel) : c.mir.ok = c.ok := by
  unfold Cel.mir Cel.ok
  apply decide_eq_decide.2; simp only; omega
theorem Cel.rot_after {c : Cel} (k : Int) : (c.rot k).after ⟨1, 0⟩ = (c.after ⟨1, 0⟩).rot k := by
  have e : ∀ d : Cel, d.after ⟨1, 0⟩ = ⟨d.e + (d.v - d.h), d.n - (d.v - d.h), d.w + (d.v - d.h), d.s - (d.v - d.h)⟩ := fun d => by
    rw [Cel.eq_iff]; simp [Cel.after, Cel.placed, Rul.turn]; omega
  rw [e, e]
  unfold Cel.rot
  split
  · rfl
  · split
    · rw [Cel.eq_iff]; simp only [Cel.h, Cel.v]; omega
    · split
      · rw [Cel.eq_iff]; simp only [Cel.h, Cel.v]; omega
      · rw [Cel.eq_iff]; simp only [Cel.h, Cel.v]; omega
theorem Cel.mir_after (c : Cel) (r : Rul) : c.mir.after r = (c.after r).mir := by
  have h1 : c.mir.h = c.h := by unfold Cel.h Cel.mir; simp only; omega
  have h2 : c.mir.v = c.v := by unfold Cel.v Cel.mir; rfl
  unfold Cel.after
  rw [h1, h2, Cel.eq_iff]
  simp only [Cel.placed, h1, Cel.mir, and_true, true_and]
  refine ⟨?_, ?_, ?_, ?_⟩ <;> first | rfl | (simp only [Cel.h]; omega)
theorem Cel.turns {c : Cel} (q : Int) (h : c.ok = true) :
    c.turned q = (c.rot (q % 4), 0) ∧ c.mirrored = (c.mir, 0) ∧ (c.rot (q % 4)).collide ⟨1, 0⟩ = ((c.after ⟨1, 0⟩).rot (q % 4), 0) ∧ c.collide ⟨1, 0⟩ = (c.after ⟨1, 0⟩, 0) ∧ (c.after ⟨1, 0⟩).turned q = ((c.after ⟨1, 0⟩).rot (q % 4), 0) := by
  have ht : Rul.ok ⟨1, 0⟩ = true := by decide
  have ha := Cel.after_ok h ht
  have hr : (c.rot (q % 4)).ok = true := by rw [Cel.rot_ok, h]
  refine ⟨?_, ?_, ?_, ?_, ?_⟩
  · simp [Cel.turned, h]
  · simp [Cel.mirrored, h]
  · simp [Cel.collide, hr, ht, Cel.rot_after]
  · simp [Cel.collide, h, ht]
  · simp [Cel.turned, ha]
theorem Cel.mirs {c : Cel} (r : Rul) (h : c.ok = true) :
    (c.mir.collide r).2 = (c.collide r).2 ∧ ((c.collide r).2 = 0 → (c.collide r).1.mirrored = ((c.mir.collide r).1, 0)) := by
  have hm : c.mir.ok = true := by rw [Cel.mir_ok, h]
  cases hr : r.ok with
  | false => simp [Cel.collide, h, hm, hr]
  | true => simp [Cel.collide, h, hm, hr, Cel.mirrored, Cel.after_ok h hr, Cel.mir_after]
end Go.Sy
