/- A collision is undone. -/
import Derived.Test.YtijealodlgdgaaaSpCell
set_option linter.unusedSimpArgs false
set_option linter.unusedVariables false
namespace Go.Sy
theorem Rul.turn_inv {r : Rul} {h all : Int} (hr : Rul.ok r = true) (h0 : 0 ≤ h) (h1 : h ≤ all) : r.inv.turn (r.turn h all) all = h ∧ r.turn (r.inv.turn h all) all = h := by
  have hk := Rul.ok_iff.1 hr
  unfold Rul.turn Rul.inv
  simp only
  split
  · omega
  · split
    · omega
    · refine ⟨?_, ?_⟩
      · rw [Int.add_comm, Int.add_emod_emod, show -r.b + (h + r.b) = h by omega]; exact Int.emod_eq_of_lt h0 (by omega)
      · rw [Int.add_comm, Int.add_emod_emod, show r.b + (h + -r.b) = h by omega]; exact Int.emod_eq_of_lt h0 (by omega)
theorem Cel.placed_placed {c : Cel} {p q : Int} (h : c.ok = true) (h0 : 0 ≤ p) (h1 : p ≤ c.h + c.v) : (c.placed p).placed q = c.placed q := by
  have hp := (Cel.placed_h h h0 h1).1
  rw [Cel.eq_iff]
  have e : ∀ d : Cel, d.placed q = ⟨d.e + (q - d.h), d.n - (q - d.h), d.w + (q - d.h), d.s - (q - d.h)⟩ := fun _ => rfl
  rw [e, hp]
  simp only [Cel.placed]
  omega
theorem Cel.placed_self (c : Cel) : c.placed c.h = c := by
  rw [Cel.eq_iff]; simp only [Cel.placed]; omega
theorem Cel.after_undone {c : Cel} {r : Rul} (h : c.ok = true) (hr : r.ok = true) : (c.after r).after r.inv = c ∧ (c.after r.inv).after r = c := by
  have hc := Cel.facts h
  have t1 := Cel.turn_range h hr
  have t2 := Cel.turn_range h (Rul.inv_ok hr)
  have ti := Rul.turn_inv (r := r) (h := c.h) (all := c.h + c.v) hr (by omega) (by omega)
  constructor
  · have hp := Cel.placed_h h t1.1 t1.2
    show ((c.placed _).placed (r.inv.turn (c.placed _).h ((c.placed _).h + (c.placed _).v))) = c
    rw [hp.1, hp.2, show r.turn c.h (c.h + c.v) + (c.h + c.v - r.turn c.h (c.h + c.v)) = c.h + c.v by omega, ti.1, Cel.placed_placed h t1.1 t1.2, Cel.placed_self]
  · have hp := Cel.placed_h h t2.1 t2.2
    show ((c.placed _).placed (r.turn (c.placed _).h ((c.placed _).h + (c.placed _).v))) = c
    rw [hp.1, hp.2, show r.inv.turn c.h (c.h + c.v) + (c.h + c.v - r.inv.turn c.h (c.h + c.v)) = c.h + c.v by omega, ti.2, Cel.placed_placed h t2.1 t2.2, Cel.placed_self]
theorem Cel.kept {c : Cel} {r : Rul} (h : c.ok = true) (hr : r.ok = true) :
    c.collide r = (c.after r, 0) ∧ (c.after r).mass = c.mass ∧ (c.after r).mom = c.mom ∧ c.mass.2 = 0 ∧ c.mom.2.2 = 0 ∧ (c.after r).undo r = (c, 0) ∧ c.undo r = (c.after r.inv, 0) ∧ (c.after r.inv).collide r = (c, 0) ∧
      r.inverse = (r.inv, 0) ∧ c.collide r.inv = (c.after r.inv, 0) := by
  have ha := Cel.after_ok h hr
  have hi := Rul.inv_ok hr
  have hb := Cel.after_ok h hi
  have hu := Cel.after_undone h hr
  refine ⟨?_, ?_, ?_, ?_, ?_, ?_, ?_, ?_, ?_, ?_⟩
  · simp [Cel.collide, h, hr]
  · unfold Cel.mass; rw [if_pos h, if_pos ha]; simp only [Cel.after, Cel.placed, Prod.mk.injEq, and_true]; omega
  · unfold Cel.mom; rw [if_pos h, if_pos ha]; simp only [Cel.after, Cel.placed, Prod.mk.injEq, and_true]; omega
  · simp [Cel.mass, h]
  · simp [Cel.mom, h]
  · simp [Cel.undo, ha, hr, hu.1]
  · simp [Cel.undo, h, hr]
  · simp [Cel.collide, hb, hr, hu.2]
  · simp [Rul.inverse, hr]
  · simp [Cel.collide, h, hi]
theorem Cel.collide_ok {c : Cel} {r : Rul} (h : (c.collide r).2 = 0) : c.ok = true ∧ r.ok = true := by
  unfold Cel.collide at h
  split at h
  · rename_i hh; simpa using hh
  · simp at h
end Go.Sy
