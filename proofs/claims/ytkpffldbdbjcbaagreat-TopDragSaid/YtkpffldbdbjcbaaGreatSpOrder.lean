/- What the functions on cells come to, in whole numbers. -/
import Derived.Test.YtkpffldbdbjcbaaGreatSyC
set_option linter.unusedSimpArgs false
set_option linter.unusedVariables false
namespace Go.Sy

def Cel.ok (c : Cel) : Bool := decide (0 ≤ c.e ∧ 0 ≤ c.n ∧ 0 ≤ c.w ∧ 0 ≤ c.s ∧ c.e + c.n + c.w + c.s ≤ 1000000000)
def Rul.ok (r : Rul) : Bool := decide ((r.k = 0 ∨ r.k = 1) ∧ r.b = 0 ∨ r.k = 2 ∧ -1000000000 ≤ r.b ∧ r.b ≤ 1000000000)
theorem Cel.ok_iff {c : Cel} : Cel.ok c = true ↔ 0 ≤ c.e ∧ 0 ≤ c.n ∧ 0 ≤ c.w ∧ 0 ≤ c.s ∧ c.e + c.n + c.w + c.s ≤ 1000000000 := by simp [Cel.ok]
theorem Rul.ok_iff {r : Rul} : Rul.ok r = true ↔ (r.k = 0 ∨ r.k = 1) ∧ r.b = 0 ∨ r.k = 2 ∧ -1000000000 ≤ r.b ∧ r.b ≤ 1000000000 := by simp [Rul.ok]
def Cel.sum (c : Cel) : Int := if Cel.ok c then c.e + c.n + c.w + c.s else -1
def Cel.h (c : Cel) : Int := min c.e c.w
def Cel.v (c : Cel) : Int := min c.n c.s
def Cel.zero : Cel := ⟨0, 0, 0, 0⟩
def Rul.zero : Rul := ⟨0, 0⟩
/-- What a rule makes of h pairs of all. -/
def Rul.turn (r : Rul) (h all : Int) : Int := if r.k = 0 then h else if r.k = 1 then all - h else (h + r.b) % (all + 1)
def Cel.placed (c : Cel) (p : Int) : Cel := ⟨c.e + (p - c.h), c.n - (p - c.h), c.w + (p - c.h), c.s - (p - c.h)⟩
def Cel.after (c : Cel) (r : Rul) : Cel := c.placed (r.turn c.h (c.h + c.v))
def Rul.inv (r : Rul) : Rul := ⟨r.k, -r.b⟩

theorem adj_tmod {a b : Int} (hb : 0 < b) : (if a.tmod b < 0 then a.tmod b + b else a.tmod b) = a % b := by
  rw [Int.tmod_eq_emod]
  have h1 := Int.emod_nonneg a (show b ≠ 0 by omega)
  have h2 := Int.emod_lt_of_pos a hb
  by_cases h3 : 0 ≤ a ∨ b ∣ a
  · rw [if_pos h3]; simp only [Int.natCast_zero, Int.sub_zero]; rw [if_neg (by omega)]
  · rw [if_neg h3]
    have : (b.natAbs : Int) = b := by omega
    rw [this, if_pos (by omega)]; omega

theorem Rul.turn_range {r : Rul} {h all : Int} (hr : Rul.ok r = true) (h0 : 0 ≤ h) (h1 : h ≤ all) : 0 ≤ r.turn h all ∧ r.turn h all ≤ all := by
  unfold Rul.turn
  have := Int.emod_nonneg (h + r.b) (show all + 1 ≠ 0 by omega)
  have := Int.emod_lt_of_pos (h + r.b) (show 0 < all + 1 by omega)
  split
  · omega
  · split <;> omega

theorem Cel.facts {c : Cel} (h : Cel.ok c = true) : (0 ≤ c.e ∧ 0 ≤ c.n ∧ 0 ≤ c.w ∧ 0 ≤ c.s ∧ c.e + c.n + c.w + c.s ≤ 1000000000) ∧
    (0 ≤ c.h ∧ c.h ≤ c.e ∧ c.h ≤ c.w ∧ (c.h = c.e ∨ c.h = c.w)) ∧ 0 ≤ c.v ∧ c.v ≤ c.n ∧ c.v ≤ c.s ∧ (c.v = c.n ∨ c.v = c.s) := by
  have := Cel.ok_iff.1 h
  unfold Cel.h Cel.v
  omega
theorem Cel.placed_ok {c : Cel} {p : Int} (h : Cel.ok c = true) (h0 : 0 ≤ p) (h1 : p ≤ c.h + c.v) : Cel.ok (c.placed p) = true := by
  have := Cel.facts h
  rw [Cel.ok_iff]; simp only [Cel.placed]; omega
theorem Cel.placed_h {c : Cel} {p : Int} (h : Cel.ok c = true) (h0 : 0 ≤ p) (h1 : p ≤ c.h + c.v) : (c.placed p).h = p ∧ (c.placed p).v = c.h + c.v - p := by
  have := Cel.facts h
  constructor
  · unfold Cel.h at *; simp only [Cel.placed, Cel.h]; omega
  · unfold Cel.h Cel.v at *; simp only [Cel.placed, Cel.h]; omega
theorem Cel.turn_range {c : Cel} {r : Rul} (h : Cel.ok c = true) (hr : Rul.ok r = true) : 0 ≤ r.turn c.h (c.h + c.v) ∧ r.turn c.h (c.h + c.v) ≤ c.h + c.v := by
  have := Cel.facts h
  exact Rul.turn_range hr (by omega) (by omega)
theorem Cel.after_ok {c : Cel} {r : Rul} (h : Cel.ok c = true) (hr : Rul.ok r = true) : Cel.ok (c.after r) = true :=
  Cel.placed_ok h (Cel.turn_range h hr).1 (Cel.turn_range h hr).2

def Cel.collide (c : Cel) (r : Rul) : Cel × Int := if c.ok && r.ok then (c.after r, 0) else (Cel.zero, 1)
def Cel.undo (c : Cel) (r : Rul) : Cel × Int := if c.ok && r.ok then (c.after r.inv, 0) else (Cel.zero, 1)
def Rul.inverse (r : Rul) : Rul × Int := if r.ok then (r.inv, 0) else (Rul.zero, 1)
def Cel.mass (c : Cel) : Int × Int := if c.ok then (c.e + c.n + c.w + c.s, 0) else (0, 1)
def Cel.mom (c : Cel) : Int × Int × Int := if c.ok then (c.e - c.w, c.n - c.s, 0) else (0, 0, 1)
theorem Rul.inv_ok {r : Rul} (h : Rul.ok r = true) : Rul.ok r.inv = true := by
  rw [Rul.ok_iff] at *; simp only [Rul.inv]; omega

/-- The reference's class, as four numbers: mass, east, north, pairs. -/
def Cel.cls (c : Cel) : Cel := ⟨c.e + c.n + c.w + c.s, c.e - c.w, c.n - c.s, c.h + c.v⟩
def Cel.norm (c : Cel) : Cel × Int := if c.ok then (c.placed 0, 0) else (Cel.zero, 1)
def Cel.place (c : Cel) : Int × Int × Int := if c.ok then (c.h, c.h + c.v + 1, 0) else (0, 0, 1)
def Cel.same (a b : Cel) : Bool := a.ok && (b.ok && decide (a.placed 0 = b.placed 0))
def Cel.rot (c : Cel) (k : Int) : Cel := if k = 0 then c else if k = 1 then ⟨c.s, c.e, c.n, c.w⟩ else if k = 2 then ⟨c.w, c.s, c.e, c.n⟩ else ⟨c.n, c.w, c.s, c.e⟩
def Cel.turned (c : Cel) (q : Int) : Cel × Int := if c.ok then (c.rot (q % 4), 0) else (Cel.zero, 1)
def Cel.mir (c : Cel) : Cel := ⟨c.w, c.n, c.e, c.s⟩
def Cel.mirrored (c : Cel) : Cel × Int := if c.ok then (c.mir, 0) else (Cel.zero, 1)
def Cel.add (a b : Cel) : Cel := ⟨a.e + b.e, a.n + b.n, a.w + b.w, a.s + b.s⟩
def Cel.added (a b : Cel) : Cel × Int := if a.ok && b.ok then (if (a.add b).ok then (a.add b, 0) else (Cel.zero, 4)) else (Cel.zero, 1)
def Cel.part (c : Cel) (k : Int) : Cel := if c.ok then ⟨(c.e + 3 - k).tdiv 4, (c.n + 3 - k).tdiv 4, (c.w + 3 - k).tdiv 4, (c.s + 3 - k).tdiv 4⟩ else Cel.zero
def Cel.err (c : Cel) : Int := if c.ok then 0 else 1
/-- The cell of a class that is told by mass, momentum and place. -/
def ofC (m e n p : Int) : Cel × Int :=
  if 0 ≤ m ∧ m ≤ 1000000000 ∧ -1000000000 ≤ e ∧ e ≤ 1000000000 ∧ -1000000000 ≤ n ∧ n ≤ 1000000000 ∧ 0 ≤ p then
    (if 0 ≤ m - e.natAbs - n.natAbs ∧ (m - e.natAbs - n.natAbs) % 2 = 0 ∧ p ≤ (m - e.natAbs - n.natAbs) / 2 then
      (⟨p + max e 0, (m - e.natAbs - n.natAbs) / 2 - p + max n 0, p + max (-e) 0, (m - e.natAbs - n.natAbs) / 2 - p + max (-n) 0⟩, 0) else (Cel.zero, 8))
  else (Cel.zero, 7)
theorem Cel.eq_iff (a b : Cel) : a = b ↔ a.e = b.e ∧ a.n = b.n ∧ a.w = b.w ∧ a.s = b.s := by
  obtain ⟨e, n, w, s⟩ := a; obtain ⟨e', n', w', s'⟩ := b; simp
theorem Rul.eq_iff (a b : Rul) : a = b ↔ a.k = b.k ∧ a.b = b.b := by
  obtain ⟨e, n⟩ := a; obtain ⟨e', n'⟩ := b; simp
end Go.Sy

/- A collision is undone. -/
set_option linter.unusedSimpArgs false
set_option linter.unusedVariables false
namespace Go.Sy
theorem Rul.turn_inv {r : Rul} {h all : Int} (hr : Rul.ok r = true) (h0 : 0 ≤ h) (h1 : h ≤ all) : r.inv.turn (r.turn h all) all = h ∧ r.turn (r.inv.turn h all) all = h := by
  have hk := Rul.ok_iff.1 hr
  unfold Rul.turn Rul.inv
  simp only
  split
  · omega
  · split
    · omega
    · refine ⟨?_, ?_⟩
      · rw [Int.add_comm, Int.add_emod_emod, show -r.b + (h + r.b) = h by omega]; exact Int.emod_eq_of_lt h0 (by omega)
      · rw [Int.add_comm, Int.add_emod_emod, show r.b + (h + -r.b) = h by omega]; exact Int.emod_eq_of_lt h0 (by omega)
theorem Cel.placed_placed {c : Cel} {p q : Int} (h : c.ok = true) (h0 : 0 ≤ p) (h1 : p ≤ c.h + c.v) : (c.placed p).placed q = c.placed q := by
  have hp := (Cel.placed_h h h0 h1).1
  rw [Cel.eq_iff]
  have e : ∀ d : Cel, d.placed q = ⟨d.e + (q - d.h), d.n - (q - d.h), d.w + (q - d.h), d.s - (q - d.h)⟩ := fun _ => rfl
  rw [e, hp]
  simp only [Cel.placed]
  omega
theorem Cel.placed_self (c : Cel) : c.placed c.h = c := by
  rw [Cel.eq_iff]; simp only [Cel.placed]; omega
theorem Cel.after_undone {c : Cel} {r : Rul} (h : c.ok = true) (hr : r.ok = true) : (c.after r).after r.inv = c ∧ (c.after r.inv).after r = c := by
  have hc := Cel.facts h
  have t1 := Cel.turn_range h hr
  have t2 := Cel.turn_range h (Rul.inv_ok hr)
  have ti := Rul.turn_inv (r := r) (h := c.h) (all := c.h + c.v) hr (by omega) (by omega)
  constructor
  · have hp := Cel.placed_h h t1.1 t1.2
    show ((c.placed _).placed (r.inv.turn (c.placed _).h ((c.placed _).h + (c.placed _).v))) = c
    rw [hp.1, hp.2, show r.turn c.h (c.h + c.v) + (c.h + c.v - r.turn c.h (c.h + c.v)) = c.h + c.v by omega, ti.1, Cel.placed_placed h t1.1 t1.2, Cel.placed_self]
  · have hp := Cel.placed_h h t2.1 t2.2
    show ((c.placed _).placed (r.turn (c.placed _).h ((c.placed _).h + (c.placed _).v))) = c
    rw [hp.1, hp.2, show r.inv.turn c.h (c.h + c.v) + (c.h + c.v - r.inv.turn c.h (c.h + c.v)) = c.h + c.v by omega, ti.2, Cel.placed_placed h t2.1 t2.2, Cel.placed_self]
theorem Cel.kept {c : Cel} {r : Rul} (h : c.ok = true) (hr : r.ok = true) :
    c.collide r = (c.after r, 0) ∧ (c.after r).mass = c.mass ∧ (c.after r).mom = c.mom ∧ c.mass.2 = 0 ∧ c.mom.2.2 = 0 ∧ (c.after r).undo r = (c, 0) ∧ c.undo r = (c.after r.inv, 0) ∧ (c.after r.inv).collide r = (c, 0) ∧
      r.inverse = (r.inv, 0) ∧ c.collide r.inv = (c.after r.inv, 0) := by
  have ha := Cel.after_ok h hr
  have hi := Rul.inv_ok hr
  have hb := Cel.after_ok h hi
  have hu := Cel.after_undone h hr
  refine ⟨?_, ?_, ?_, ?_, ?_, ?_, ?_, ?_, ?_, ?_⟩
  · simp [Cel.collide, h, hr]
  · unfold Cel.mass; rw [if_pos h, if_pos ha]; simp only [Cel.after, Cel.placed, Prod.mk.injEq, and_true]; omega
  · unfold Cel.mom; rw [if_pos h, if_pos ha]; simp only [Cel.after, Cel.placed, Prod.mk.injEq, and_true]; omega
  · simp [Cel.mass, h]
  · simp [Cel.mom, h]
  · simp [Cel.undo, ha, hr, hu.1]
  · simp [Cel.undo, h, hr]
  · simp [Cel.collide, hb, hr, hu.2]
  · simp [Rul.inverse, hr]
  · simp [Cel.collide, h, hi]
theorem Cel.collide_ok {c : Cel} {r : Rul} (h : (c.collide r).2 = 0) : c.ok = true ∧ r.ok = true := by
  unfold Cel.collide at h
  split at h
  · rename_i hh; simpa using hh
  · simp at h
end Go.Sy

/- Turned and mirrored cells. -/
set_option linter.unusedSimpArgs false
set_option linter.unusedVariables false
namespace Go.Sy
theorem Cel.rot_ok (c : Cel) (k : Int) : (c.rot k).ok = c.ok := by
  unfold Cel.rot Cel.ok
  split
  · rfl
  · split
    · apply decide_eq_decide.2; simp only; omega
    · split
      · apply decide_eq_decide.2; simp only; omega
      · apply decide_eq_decide.2; simp only; omega
theorem Cel.rot_after {c : Cel} (k : Int) : (c.rot k).after ⟨1, 0⟩ = (c.after ⟨1, 0⟩).rot k := by
  have e : ∀ d : Cel, d.after ⟨1, 0⟩ = ⟨d.e + (d.v - d.h), d.n - (d.v - d.h), d.w + (d.v - d.h), d.s - (d.v - d.h)⟩ := fun d => by
    rw [Cel.eq_iff]; simp [Cel.after, Cel.placed, Rul.turn]; omega
  rw [e, e]
  unfold Cel.rot
  split
  · rfl
  · split
    · rw [Cel.eq_iff]; simp only [Cel.h, Cel.v]; omega
    · split
      · rw [Cel.eq_iff]; simp only [Cel.h, Cel.v]; omega
      · rw [Cel.eq_iff]; simp only [Cel.h, Cel.v]; omega
theorem Cel.turns {c : Cel} (q : Int) (h : c.ok = true) :
    c.turned q = (c.rot (q % 4), 0) ∧ c.mirrored = (c.mir, 0) ∧ (c.rot (q % 4)).collide ⟨1, 0⟩ = ((c.after ⟨1, 0⟩).rot (q % 4), 0) ∧ c.collide ⟨1, 0⟩ = (c.after ⟨1, 0⟩, 0) ∧ (c.after ⟨1, 0⟩).turned q = ((c.after ⟨1, 0⟩).rot (q % 4), 0) := by
  have ht : Rul.ok ⟨1, 0⟩ = true := by decide
  have ha := Cel.after_ok h ht
  have hr : (c.rot (q % 4)).ok = true := by rw [Cel.rot_ok, h]
  refine ⟨?_, ?_, ?_, ?_, ?_⟩
  · simp [Cel.turned, h]
  · simp [Cel.mirrored, h]
  · simp [Cel.collide, hr, ht, Cel.rot_after]
  · simp [Cel.collide, h, ht]
  · simp [Cel.turned, ha]
end Go.Sy

/- Sums and parts of cells. -/
set_option linter.unusedSimpArgs false
set_option linter.unusedVariables false
namespace Go.Sy
theorem Cel.parts {c : Cel} (h : c.ok = true) :
    Cel.zero.added (c.part 0) = (c.part 0, 0) ∧ (c.part 0).added (c.part 1) = ((c.part 0).add (c.part 1), 0) ∧ ((c.part 0).add (c.part 1)).added (c.part 2) = (((c.part 0).add (c.part 1)).add (c.part 2), 0) ∧
      (((c.part 0).add (c.part 1)).add (c.part 2)).added (c.part 3) = (c, 0) ∧ c.err = 0 := by
  have hf := Cel.ok_iff.1 h
  have e : ∀ k : Int, 0 ≤ k → k ≤ 3 → c.part k = ⟨(c.e + 3 - k) / 4, (c.n + 3 - k) / 4, (c.w + 3 - k) / 4, (c.s + 3 - k) / 4⟩ := fun k h0 h1 => by
    unfold Cel.part
    rw [if_pos h, Int.tdiv_eq_ediv_of_nonneg (by omega), Int.tdiv_eq_ediv_of_nonneg (by omega), Int.tdiv_eq_ediv_of_nonneg (by omega), Int.tdiv_eq_ediv_of_nonneg (by omega)]
  have k0 : Cel.ok (c.part 0) = true := by rw [e 0 (by omega) (by omega), Cel.ok_iff]; simp only; omega
  have k1 : Cel.ok (c.part 1) = true := by rw [e 1 (by omega) (by omega), Cel.ok_iff]; simp only; omega
  have k2 : Cel.ok (c.part 2) = true := by rw [e 2 (by omega) (by omega), Cel.ok_iff]; simp only; omega
  have k3 : Cel.ok (c.part 3) = true := by rw [e 3 (by omega) (by omega), Cel.ok_iff]; simp only; omega
  have z : Cel.ok Cel.zero = true := by decide
  have z0 : Cel.zero.add (c.part 0) = c.part 0 := by rw [Cel.eq_iff]; simp [Cel.add, Cel.zero]
  have s1 : Cel.ok ((c.part 0).add (c.part 1)) = true := by rw [e 0 (by omega) (by omega), e 1 (by omega) (by omega), Cel.ok_iff]; simp only [Cel.add]; omega
  have s2 : Cel.ok (((c.part 0).add (c.part 1)).add (c.part 2)) = true := by rw [e 0 (by omega) (by omega), e 1 (by omega) (by omega), e 2 (by omega) (by omega), Cel.ok_iff]; simp only [Cel.add]; omega
  have s3 : (((c.part 0).add (c.part 1)).add (c.part 2)).add (c.part 3) = c := by rw [e 0 (by omega) (by omega), e 1 (by omega) (by omega), e 2 (by omega) (by omega), e 3 (by omega) (by omega), Cel.eq_iff]; simp only [Cel.add]; omega
  refine ⟨?_, ?_, ?_, ?_, ?_⟩
  · simp [Cel.added, z, k0, z0]
  · simp [Cel.added, k0, k1, s1]
  · simp [Cel.added, s1, k2, s2]
  · simp [Cel.added, s2, k3, s3, h]
  · simp [Cel.err, h]
end Go.Sy

/- After how many times a rule brings a cell back. -/
set_option linter.unusedSimpArgs false
set_option linter.unusedVariables false
namespace Go.Sy
/-- The greatest common divisor, as a whole number. -/
def gcdI (a b : Int) : Int := (Int.gcd a b : Nat)
def Cel.size (c : Cel) : Int := c.h + c.v + 1
def Cel.order (c : Cel) (r : Rul) : Int × Int :=
  if c.ok && r.ok then (if r.k = 2 then (c.size / gcdI r.b c.size, 0) else if c.after r = c then (1, 0) else (2, 0)) else (0, 1)
/-- A cell is that of its class at its place. -/
theorem Cel.back {c : Cel} (h : c.ok = true) : ofC (c.e + c.n + c.w + c.s) (c.e - c.w) (c.n - c.s) c.h = (c, 0) ∧ (c.norm).2 = 0 ∧ (c.place).2.2 = 0 := by
  have hf := Cel.facts h
  refine ⟨?_, by simp [Cel.norm, h], by simp [Cel.place, h]⟩
  unfold ofC
  rw [if_pos (by omega), if_pos (by omega)]
  congr 1
  rw [Cel.eq_iff]
  simp only
  omega
end Go.Sy
