/- Two cells exchange along a line. -/
import Derived.Test.YtghflfilemhaoaaSpOrder
set_option linter.unusedSimpArgs false
set_option linter.unusedVariables false
namespace Go.Sy
/-- What meets: what goes one way and the other one. -/
def meetC (a b : Cel) (k : Int) : Cel := if k = 0 then ⟨a.e, a.w, b.w, b.e⟩ else ⟨a.n, a.s, b.s, b.n⟩
def backA (a d : Cel) (k : Int) : Cel := if k = 0 then ⟨d.e, a.n, d.n, a.s⟩ else ⟨a.e, d.e, a.w, d.n⟩
def backB (b d : Cel) (k : Int) : Cel := if k = 0 then ⟨d.s, b.n, d.w, b.s⟩ else ⟨b.e, d.s, b.w, d.w⟩
def xchA (a b : Cel) (r : Rul) (k : Int) : Cel := backA a ((meetC a b k).after r) k
def xchB (a b : Cel) (r : Rul) (k : Int) : Cel := backB b ((meetC a b k).after r) k
def xcE (a b : Cel) (r : Rul) (k : Int) : Int := if a.ok && b.ok && r.ok then (if k = 0 ∨ k = 1 then (if (a.add b).ok then 0 else 4) else 7) else 1
def xcA (a b : Cel) (r : Rul) (k : Int) : Cel := if xcE a b r k = 0 then xchA a b r k else Cel.zero
def xcB (a b : Cel) (r : Rul) (k : Int) : Cel := if xcE a b r k = 0 then xchB a b r k else Cel.zero
theorem xcE_iff {a b : Cel} {r : Rul} {k : Int} : xcE a b r k = 0 ↔ a.ok = true ∧ b.ok = true ∧ r.ok = true ∧ (k = 0 ∨ k = 1) ∧ (a.add b).ok = true := by
  unfold xcE
  cases a.ok <;> cases b.ok <;> cases r.ok <;> simp
  by_cases h : k = 0 ∨ k = 1
  · rw [if_pos h]
    cases (a.add b).ok <;> simp [h]
  · rw [if_neg h]; simp; intro h2; exact absurd h2 h
theorem meet_ok {a b : Cel} {k : Int} (ha : a.ok = true) (hb : b.ok = true) (h : (a.add b).ok = true) : (meetC a b k).ok = true := by
  rw [Cel.ok_iff] at *
  simp only [Cel.add] at h
  unfold meetC
  split <;> simp only <;> omega
theorem rul_inv_ok (r : Rul) : r.inv.ok = r.ok := by
  rw [Bool.eq_iff_iff, Rul.ok_iff, Rul.ok_iff]; simp only [Rul.inv]; omega
theorem Cel.after_sum {c : Cel} (r : Rul) : (c.after r).e + (c.after r).n = c.e + c.n ∧ (c.after r).w + (c.after r).s = c.w + c.s ∧ (c.after r).e - (c.after r).w = c.e - c.w ∧ (c.after r).n - (c.after r).s = c.n - c.s := by
  simp only [Cel.after, Cel.placed]; omega
/-- What an exchange keeps. -/
theorem xch_kept {a b : Cel} {r : Rul} {k : Int} (h : xcE a b r k = 0) :
    (xchA a b r k).e + (xchA a b r k).n + (xchA a b r k).w + (xchA a b r k).s = a.e + a.n + a.w + a.s ∧ (xchB a b r k).e + (xchB a b r k).n + (xchB a b r k).w + (xchB a b r k).s = b.e + b.n + b.w + b.s ∧
    (xchA a b r k).e - (xchA a b r k).w + ((xchB a b r k).e - (xchB a b r k).w) = a.e - a.w + (b.e - b.w) ∧ (xchA a b r k).n - (xchA a b r k).s + ((xchB a b r k).n - (xchB a b r k).s) = a.n - a.s + (b.n - b.s) ∧
    xcE (xchA a b r k) (xchB a b r k) r.inv k = 0 ∧ xchA (xchA a b r k) (xchB a b r k) r.inv k = a ∧ xchB (xchA a b r k) (xchB a b r k) r.inv k = b ∧ (xchA a b r k).ok = true ∧ (xchB a b r k).ok = true := by
  obtain ⟨ha, hb, hr, hk, hs⟩ := xcE_iff.1 h
  have hm := meet_ok (k := k) ha hb hs
  have hd := Cel.after_ok hm hr
  have hsum := Cel.after_sum (c := meetC a b k) r
  have hu := (Cel.after_undone hm hr).1
  have fd := Cel.ok_iff.1 hd
  have fa := Cel.ok_iff.1 ha
  have fb := Cel.ok_iff.1 hb
  have fs := Cel.ok_iff.1 hs
  simp only [Cel.add] at fs
  have key : meetC (xchA a b r k) (xchB a b r k) k = (meetC a b k).after r := by
    rcases hk with rfl | rfl <;> simp [meetC, xchA, xchB, backA, backB]
  have o1 : (xchA a b r k).ok = true := by
    rw [Cel.ok_iff]
    rcases hk with rfl | rfl <;> simp [meetC] at hsum fd <;> simp [xchA, backA, meetC] <;> omega
  have o2 : (xchB a b r k).ok = true := by
    rw [Cel.ok_iff]
    rcases hk with rfl | rfl <;> simp [meetC] at hsum fd <;> simp [xchB, backB, meetC] <;> omega
  have m1 : (xchA a b r k).e + (xchA a b r k).n + (xchA a b r k).w + (xchA a b r k).s = a.e + a.n + a.w + a.s := by
    rcases hk with rfl | rfl <;> simp [meetC] at hsum <;> simp [xchA, backA, meetC] <;> omega
  have m2 : (xchB a b r k).e + (xchB a b r k).n + (xchB a b r k).w + (xchB a b r k).s = b.e + b.n + b.w + b.s := by
    rcases hk with rfl | rfl <;> simp [meetC] at hsum <;> simp [xchB, backB, meetC] <;> omega
  have g1 := Cel.ok_iff.1 o1
  have g2 := Cel.ok_iff.1 o2
  refine ⟨m1, m2, ?_, ?_, ?_, ?_, ?_, o1, o2⟩
  · rcases hk with rfl | rfl <;> simp [meetC] at hsum <;> simp [xchA, xchB, backA, backB, meetC] <;> omega
  · rcases hk with rfl | rfl <;> simp [meetC] at hsum <;> simp [xchA, xchB, backA, backB, meetC] <;> omega
  · rw [xcE_iff]
    refine ⟨o1, o2, by rw [rul_inv_ok]; exact hr, hk, ?_⟩
    rw [Cel.ok_iff]; simp only [Cel.add]; omega
  · show backA (xchA a b r k) ((meetC (xchA a b r k) (xchB a b r k) k).after r.inv) k = a
    rw [key, hu]
    rcases hk with rfl | rfl <;> simp [backA, meetC, xchA]
  · show backB (xchB a b r k) ((meetC (xchA a b r k) (xchB a b r k) k).after r.inv) k = b
    rw [key, hu]
    rcases hk with rfl | rfl <;> simp [backB, meetC, xchB]
/-- The same, of what is handed back. -/
theorem xc_kept (a b : Cel) (r : Rul) (k : Int) : xcE a b r k ≠ 0 ∨ (xcE a b r k = 0 ∧
    (xcA a b r k).e + (xcA a b r k).n + (xcA a b r k).w + (xcA a b r k).s = a.e + a.n + a.w + a.s ∧ (xcB a b r k).e + (xcB a b r k).n + (xcB a b r k).w + (xcB a b r k).s = b.e + b.n + b.w + b.s ∧
    (xcA a b r k).e - (xcA a b r k).w + ((xcB a b r k).e - (xcB a b r k).w) = a.e - a.w + (b.e - b.w) ∧ (xcA a b r k).n - (xcA a b r k).s + ((xcB a b r k).n - (xcB a b r k).s) = a.n - a.s + (b.n - b.s) ∧
    xcE (xcA a b r k) (xcB a b r k) r.inv k = 0 ∧ xcA (xcA a b r k) (xcB a b r k) r.inv k = a ∧ xcB (xcA a b r k) (xcB a b r k) r.inv k = b ∧ (xcA a b r k).ok = true ∧ (xcB a b r k).ok = true ∧ a.ok = true ∧ b.ok = true) := by
  rcases Decidable.em (xcE a b r k = 0) with h | h
  · have hA : xcA a b r k = xchA a b r k := if_pos h
    have hB : xcB a b r k = xchB a b r k := if_pos h
    obtain ⟨h1, h2, h3, h4, h5, h6, h7, h8, h9⟩ := xch_kept h
    obtain ⟨ha, hb, _⟩ := xcE_iff.1 h
    rw [hA, hB]
    exact .inr ⟨h, h1, h2, h3, h4, h5, (if_pos h5).trans h6, (if_pos h5).trans h7, h8, h9, ha, hb⟩
  · exact .inl h
theorem Cel.mass_t {c : Cel} (h : c.ok = true) : c.mass.1 = c.e + c.n + c.w + c.s ∧ c.mass.2 = 0 := by simp [Cel.mass, h]
theorem Cel.mass_f {c : Cel} (h : c.ok = false) : c.mass.1 = 0 ∧ c.mass.2 = 1 := by simp [Cel.mass, h]
theorem add_cases (a b : Cel) : (a.ok = false ∧ a.mass.1 = 0 ∧ a.mass.2 = 1) ∨ (a.ok = true ∧ a.mass.2 = 0 ∧ b.ok = false ∧ b.mass.1 = 0 ∧ b.mass.2 = 1) ∨
    (a.ok = true ∧ b.ok = true ∧ a.mass.2 = 0 ∧ b.mass.2 = 0 ∧ (a.add b).ok = true ∧ a.mass.1 + b.mass.1 ≤ 1000000000 ∧ 0 ≤ a.mass.1 ∧ 0 ≤ b.mass.1) ∨
    (a.ok = true ∧ b.ok = true ∧ a.mass.2 = 0 ∧ b.mass.2 = 0 ∧ (a.add b).ok = false ∧ 1000000000 < a.mass.1 + b.mass.1 ∧ a.mass.1 + b.mass.1 ≤ 2000000000) := by
  cases ha : a.ok
  · exact .inl ⟨rfl, Cel.mass_f ha⟩
  cases hb : b.ok
  · exact .inr (.inl ⟨rfl, (Cel.mass_t ha).2, rfl, Cel.mass_f hb⟩)
  obtain ⟨a1, a2⟩ := Cel.mass_t ha
  obtain ⟨b1, b2⟩ := Cel.mass_t hb
  have fa := Cel.ok_iff.1 ha
  have fb := Cel.ok_iff.1 hb
  have fs := Cel.ok_iff (c := a.add b)
  simp only [Cel.add] at fs
  cases hs : (a.add b).ok
  · refine .inr (.inr (.inr ⟨rfl, rfl, a2, b2, rfl, ?_, ?_⟩))
    · rcases Decidable.em (1000000000 < a.mass.1 + b.mass.1) with h | h
      · exact h
      · have := fs.2 (by omega); rw [Cel.add] at hs; rw [this] at hs; cases hs
    · omega
  · rw [Cel.add] at hs
    have := fs.1 hs
    exact .inr (.inr (.inl ⟨rfl, rfl, a2, b2, rfl, by omega, by omega, by omega⟩))
end Go.Sy
