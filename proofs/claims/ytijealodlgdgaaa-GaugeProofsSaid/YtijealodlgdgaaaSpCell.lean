/- What the functions on cells come to, in whole numbers. -/
import Derived.Test.YtijealodlgdgaaaSyC
set_option linter.unusedSimpArgs false
set_option linter.unusedVariables false
namespace Go.Sy

def Cel.ok (c : Cel) : Bool := decide (0 ≤ c.e ∧ 0 ≤ c.n ∧ 0 ≤ c.w ∧ 0 ≤ c.s ∧ c.e + c.n + c.w + c.s ≤ 1000000000)
def Rul.ok (r : Rul) : Bool := decide ((r.k = 0 ∨ r.k = 1) ∧ r.b = 0 ∨ r.k = 2 ∧ -1000000000 ≤ r.b ∧ r.b ≤ 1000000000)
theorem Cel.ok_iff {c : Cel} : Cel.ok c = true ↔ 0 ≤ c.e ∧ 0 ≤ c.n ∧ 0 ≤ c.w ∧ 0 ≤ c.s ∧ c.e + c.n + c.w + c.s ≤ 1000000000 := by simp [Cel.ok]
theorem Rul.ok_iff {r : Rul} : Rul.ok r = true ↔ (r.k = 0 ∨ r.k = 1) ∧ r.b = 0 ∨ r.k = 2 ∧ -1000000000 ≤ r.b ∧ r.b ≤ 1000000000 := by simp [Rul.ok]
def Cel.sum (c : Cel) : Int := if Cel.ok c then c.e + c.n + c.w + c.s else -1
def Cel.h (c : Cel) : Int := min c.e c.w
def Cel.v (c : Cel) : Int := min c.n c.s
def Cel.zero : Cel := ⟨0, 0, 0, 0⟩
def Rul.zero : Rul := ⟨0, 0⟩
/-- What a rule makes of h pairs of all. -/
def Rul.turn (r : Rul) (h all : Int) : Int := if r.k = 0 then h else if r.k = 1 then all - h else (h + r.b) % (all + 1)
def Cel.placed (c : Cel) (p : Int) : Cel := ⟨c.e + (p - c.h), c.n - (p - c.h), c.w + (p - c.h), c.s - (p - c.h)⟩
def Cel.after (c : Cel) (r : Rul) : Cel := c.placed (r.turn c.h (c.h + c.v))
def Rul.inv (r : Rul) : Rul := ⟨r.k, -r.b⟩

theorem adj_tmod {a b : Int} (hb : 0 < b) : (if a.tmod b < 0 then a.tmod b + b else a.tmod b) = a % b := by
  rw [Int.tmod_eq_emod]
  have h1 := Int.emod_nonneg a (show b ≠ 0 by omega)
  have h2 := Int.emod_lt_of_pos a hb
  by_cases h3 : 0 ≤ a ∨ b ∣ a
  · rw [if_pos h3]; simp only [Int.natCast_zero, Int.sub_zero]; rw [if_neg (by omega)]
  · rw [if_neg h3]
    have : (b.natAbs : Int) = b := by omega
    rw [this, if_pos (by omega)]; omega

theorem Rul.turn_range {r : Rul} {h all : Int} (hr : Rul.ok r = true) (h0 : 0 ≤ h) (h1 : h ≤ all) : 0 ≤ r.turn h all ∧ r.turn h all ≤ all := by
  unfold Rul.turn
  have := Int.emod_nonneg (h + r.b) (show all + 1 ≠ 0 by omega)
  have := Int.emod_lt_of_pos (h + r.b) (show 0 < all + 1 by omega)
  split
  · omega
  · split <;> omega

theorem Cel.facts {c : Cel} (h : Cel.ok c = true) : (0 ≤ c.e ∧ 0 ≤ c.n ∧ 0 ≤ c.w ∧ 0 ≤ c.s ∧ c.e + c.n + c.w + c.s ≤ 1000000000) ∧
    (0 ≤ c.h ∧ c.h ≤ c.e ∧ c.h ≤ c.w ∧ (c.h = c.e ∨ c.h = c.w)) ∧ 0 ≤ c.v ∧ c.v ≤ c.n ∧ c.v ≤ c.s ∧ (c.v = c.n ∨ c.v = c.s) := by
  have := Cel.ok_iff.1 h
  unfold Cel.h Cel.v
  omega
theorem Cel.placed_ok {c : Cel} {p : Int} (h : Cel.ok c = true) (h0 : 0 ≤ p) (h1 : p ≤ c.h + c.v) : Cel.ok (c.placed p) = true := by
  have := Cel.facts h
  rw [Cel.ok_iff]; simp only [Cel.placed]; omega
theorem Cel.placed_h {c : Cel} {p : Int} (h : Cel.ok c = true) (h0 : 0 ≤ p) (h1 : p ≤ c.h + c.v) : (c.placed p).h = p ∧ (c.placed p).v = c.h + c.v - p := by
  have := Cel.facts h
  constructor
  · unfold Cel.h at *; simp only [Cel.placed, Cel.h]; omega
  · unfold Cel.h Cel.v at *; simp only [Cel.placed, Cel.h]; omega
theorem Cel.turn_range {c : Cel} {r : Rul} (h : Cel.ok c = true) (hr : Rul.ok r = true) : 0 ≤ r.turn c.h (c.h + c.v) ∧ r.turn c.h (c.h + c.v) ≤ c.h + c.v := by
  have := Cel.facts h
  exact Rul.turn_range hr (by omega) (by omega)
theorem Cel.after_ok {c : Cel} {r : Rul} (h : Cel.ok c = true) (hr : Rul.ok r = true) : Cel.ok (c.after r) = true :=
  Cel.placed_ok h (Cel.turn_range h hr).1 (Cel.turn_range h hr).2

def Cel.collide (c : Cel) (r : Rul) : Cel × Int := if c.ok && r.ok then (c.after r, 0) else (Cel.zero, 1)
def Cel.undo (c : Cel) (r : Rul) : Cel × Int := if c.ok && r.ok then (c.after r.inv, 0) else (Cel.zero, 1)
def Rul.inverse (r : Rul) : Rul × Int := if r.ok then (r.inv, 0) else (Rul.zero, 1)
def Cel.mass (c : Cel) : Int × Int := if c.ok then (c.e + c.n + c.w + c.s, 0) else (0, 1)
def Cel.mom (c : Cel) : Int × Int × Int := if c.ok then (c.e - c.w, c.n - c.s, 0) else (0, 0, 1)
def Cel.prs (c : Cel) : Int × Int × Int := if c.ok then (c.h, c.v, 0) else (0, 0, 1)
theorem Rul.inv_ok {r : Rul} (h : Rul.ok r = true) : Rul.ok r.inv = true := by
  rw [Rul.ok_iff] at *; simp only [Rul.inv]; omega

/-- The reference's class, as four numbers: mass, east, north, pairs. -/
def Cel.cls (c : Cel) : Cel := ⟨c.e + c.n + c.w + c.s, c.e - c.w, c.n - c.s, c.h + c.v⟩
def Cel.clsAt (x : Cel) (p : Int) : Cel := ⟨p + max x.n 0, x.s - p + max x.w 0, p + max (-x.n) 0, x.s - p + max (-x.w) 0⟩
theorem Cel.clsAt_cls {c : Cel} {p : Int} (h : c.ok = true) : c.cls.clsAt p = c.placed p := by
  have := Cel.facts h
  simp only [Cel.clsAt, Cel.cls, Cel.placed, Cel.mk.injEq]
  omega

def Cel.norm (c : Cel) : Cel × Int := if c.ok then (c.placed 0, 0) else (Cel.zero, 1)
def Cel.place (c : Cel) : Int × Int × Int := if c.ok then (c.h, c.h + c.v + 1, 0) else (0, 0, 1)
def Cel.same (a b : Cel) : Bool := a.ok && (b.ok && decide (a.placed 0 = b.placed 0))
theorem Cel.cls_same {a b : Cel} (ha : a.ok = true) (hb : b.ok = true) : a.cls = b.cls ↔ a.placed 0 = b.placed 0 := by
  have := Cel.facts ha
  have := Cel.facts hb
  simp only [Cel.cls, Cel.placed, Cel.mk.injEq]
  omega
/-- Of one class: told apart by the place, before a rule and behind it. -/
theorem Cel.same_place {a b : Cel} (ha : a.ok = true) (hb : b.ok = true) (h : a.placed 0 = b.placed 0) : (a.h = b.h ↔ a = b) ∧ a.h + a.v = b.h + b.v := by
  have := Cel.facts ha
  have := Cel.facts hb
  obtain ⟨e, n, w, s⟩ := a
  obtain ⟨e', n', w', s'⟩ := b
  simp only [Cel.placed, Cel.mk.injEq] at *
  omega
theorem Rul.turn_inj {r : Rul} {h k all : Int} (hr : Rul.ok r = true) (h0 : 0 ≤ h) (h1 : h ≤ all) (k0 : 0 ≤ k) (k1 : k ≤ all) (he : r.turn h all = r.turn k all) : h = k := by
  unfold Rul.turn at he
  split at he
  · exact he
  · split at he
    · omega
    · have e1 : (h + r.b) % (all + 1) = (k + r.b) % (all + 1) := he
      have e2 : (all + 1) ∣ ((h + r.b) - (k + r.b)) := Int.dvd_of_emod_eq_zero (by rw [Int.sub_emod, e1]; simp)
      obtain ⟨q, hq⟩ := e2
      have e3 : h - k = (all + 1) * q := by omega
      have q0 : q = 0 := by
        by_cases h2 : q ≤ -1
        · have : (all + 1) * q ≤ (all + 1) * (-1) := Int.mul_le_mul_of_nonneg_left h2 (by omega)
          omega
        · by_cases h3 : 1 ≤ q
          · have : (all + 1) * 1 ≤ (all + 1) * q := Int.mul_le_mul_of_nonneg_left h3 (by omega)
            omega
          · omega
      subst q0; omega
theorem Cel.after_inj {a b : Cel} {r : Rul} (ha : a.ok = true) (hb : b.ok = true) (hr : r.ok = true) (h : a.placed 0 = b.placed 0) : a.after r = b.after r ↔ a = b := by
  refine ⟨fun he => ?_, fun he => by rw [he]⟩
  obtain ⟨h1, h2⟩ := Cel.same_place ha hb h
  have ta := Cel.turn_range ha hr
  have tb := Cel.turn_range hb hr
  have fa := Cel.facts ha
  have fb := Cel.facts hb
  have pa := Cel.placed_h ha ta.1 ta.2
  have pb := Cel.placed_h hb tb.1 tb.2
  have : r.turn a.h (a.h + a.v) = r.turn b.h (b.h + b.v) := by
    rw [← pa.1, ← pb.1]; exact congrArg Cel.h he
  rw [← h2] at this
  exact h1.1 (Rul.turn_inj hr (by omega) (by omega) (by omega) (by omega) this)

def Cel.rot (c : Cel) (k : Int) : Cel := if k = 0 then c else if k = 1 then ⟨c.s, c.e, c.n, c.w⟩ else if k = 2 then ⟨c.w, c.s, c.e, c.n⟩ else ⟨c.n, c.w, c.s, c.e⟩
def Cel.turned (c : Cel) (q : Int) : Cel × Int := if c.ok then (c.rot (q % 4), 0) else (Cel.zero, 1)
def Cel.mir (c : Cel) : Cel := ⟨c.w, c.n, c.e, c.s⟩
def Cel.mirrored (c : Cel) : Cel × Int := if c.ok then (c.mir, 0) else (Cel.zero, 1)
def Cel.add (a b : Cel) : Cel := ⟨a.e + b.e, a.n + b.n, a.w + b.w, a.s + b.s⟩
def Cel.added (a b : Cel) : Cel × Int := if a.ok && b.ok then (if (a.add b).ok then (a.add b, 0) else (Cel.zero, 4)) else (Cel.zero, 1)
def Cel.part (c : Cel) (k : Int) : Cel := if c.ok then ⟨(c.e + 3 - k).tdiv 4, (c.n + 3 - k).tdiv 4, (c.w + 3 - k).tdiv 4, (c.s + 3 - k).tdiv 4⟩ else Cel.zero
def Cel.err (c : Cel) : Int := if c.ok then 0 else 1
/-- The cell of a class that is told by mass, momentum and place. -/
def ofC (m e n p : Int) : Cel × Int :=
  if 0 ≤ m ∧ m ≤ 1000000000 ∧ -1000000000 ≤ e ∧ e ≤ 1000000000 ∧ -1000000000 ≤ n ∧ n ≤ 1000000000 ∧ 0 ≤ p then
    (if 0 ≤ m - e.natAbs - n.natAbs ∧ (m - e.natAbs - n.natAbs) % 2 = 0 ∧ p ≤ (m - e.natAbs - n.natAbs) / 2 then
      (⟨p + max e 0, (m - e.natAbs - n.natAbs) / 2 - p + max n 0, p + max (-e) 0, (m - e.natAbs - n.natAbs) / 2 - p + max (-n) 0⟩, 0) else (Cel.zero, 8))
  else (Cel.zero, 7)
theorem Cel.eq_iff (a b : Cel) : a = b ↔ a.e = b.e ∧ a.n = b.n ∧ a.w = b.w ∧ a.s = b.s := by
  obtain ⟨e, n, w, s⟩ := a; obtain ⟨e', n', w', s'⟩ := b; simp
theorem Rul.eq_iff (a b : Rul) : a = b ↔ a.k = b.k ∧ a.b = b.b := by
  obtain ⟨e, n⟩ := a; obtain ⟨e', n'⟩ := b; simp
end Go.Sy
