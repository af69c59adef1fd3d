/- After how many times a rule brings a cell back. -/
import Derived.Test.YtbjgdlmiofgdnaaSpAdd
set_option linter.unusedSimpArgs false
set_option linter.unusedVariables false
namespace Go.Sy
/-- The greatest common divisor, as a whole number. -/
def gcdI (a b : Int) : Int := (Int.gcd a b : Nat)
theorem gcdI_pos {a b : Int} (h : 0 < b) : 1 ≤ gcdI a b ∧ gcdI a b ≤ b := by
  unfold gcdI
  have h1 : 0 < Int.gcd a b := Int.gcd_pos_of_ne_zero_right _ (by omega)
  have h2 : Int.gcd a b ≤ b.natAbs := Nat.le_of_dvd (by omega) (Nat.gcd_dvd_right _ _)
  omega
theorem gcdI_left (a b : Int) : gcdI (b.tmod a) a = gcdI a b := by
  unfold gcdI Int.gcd
  rw [Int.natAbs_tmod, ← Nat.gcd_rec]
theorem gcdI_right (a b : Int) : gcdI b (a.tmod b) = gcdI a b := by
  unfold gcdI Int.gcd
  rw [Int.natAbs_tmod, Nat.gcd_comm, ← Nat.gcd_rec, Nat.gcd_comm]
theorem gcdI_zero (b : Int) : gcdI 0 b = (b.natAbs : Int) := by simp [gcdI]
theorem gcdI_zero' (b : Int) : gcdI b 0 = (b.natAbs : Int) := by simp [gcdI]
theorem tmod_lt (b : Int) {a : Int} (h : a ≠ 0) : (b.tmod a).natAbs < a.natAbs := by
  rw [Int.natAbs_tmod]; exact Nat.mod_lt _ (by omega)

def Cel.size (c : Cel) : Int := c.h + c.v + 1
def Cel.order (c : Cel) (r : Rul) : Int × Int :=
  if c.ok && r.ok then (if r.k = 2 then (c.size / gcdI r.b c.size, 0) else if c.after r = c then (1, 0) else (2, 0)) else (0, 1)
theorem order_tdiv {c : Cel} (r : Rul) (h : c.ok = true) : (c.h + c.v + 1).tdiv (gcdI r.b (c.h + c.v + 1)) = c.size / gcdI r.b c.size ∧ 1 ≤ gcdI r.b (c.h + c.v + 1) ∧ 0 ≤ c.size / gcdI r.b c.size ∧ c.size / gcdI r.b c.size ≤ 1000000001 := by
  have hf := Cel.facts h
  have hg := gcdI_pos (a := r.b) (b := c.h + c.v + 1) (by omega)
  have e : (c.h + c.v + 1).tdiv (gcdI r.b (c.h + c.v + 1)) = c.size / gcdI r.b c.size := by
    rw [Int.tdiv_eq_ediv_of_nonneg (by omega)]; rfl
  have h2 : 0 ≤ c.size / gcdI r.b c.size := Int.ediv_nonneg (by unfold Cel.size; omega) (by unfold Cel.size; omega)
  have h3 : c.size / gcdI r.b c.size ≤ c.size := Int.ediv_le_self _ (by unfold Cel.size; omega)
  refine ⟨e, hg.1, h2, ?_⟩
  unfold Cel.size at *
  omega

def Cel.afters (c : Cel) (r : Rul) : Nat → Cel
  | 0 => c
  | k + 1 => (c.afters r k).after r
theorem dvd_iff (N b : Int) (hN : 0 < N) (k : Nat) : N ∣ (k : Int) * b ↔ (N / gcdI b N).toNat ∣ k := by
  have hg : 0 < Int.gcd b N := Int.gcd_pos_of_ne_zero_right _ (by omega)
  obtain ⟨n', hn⟩ : Int.gcd b N ∣ N.natAbs := Nat.gcd_dvd_right _ _
  obtain ⟨m', hm⟩ : Int.gcd b N ∣ b.natAbs := Nat.gcd_dvd_left _ _
  have hco : Nat.Coprime n' m' := by
    have := Nat.coprime_div_gcd_div_gcd (m := b.natAbs) (n := N.natAbs) hg
    rw [show b.natAbs.gcd N.natAbs = Int.gcd b N from rfl, hm, hn] at this
    rw [show Int.gcd b N = Int.gcd b N from rfl] at this
    rw [← hm, ← hn] at this
    have e1 : b.natAbs / Int.gcd b N = m' := by rw [hm]; exact Nat.mul_div_cancel_left _ hg
    have e2 : N.natAbs / Int.gcd b N = n' := by rw [hn]; exact Nat.mul_div_cancel_left _ hg
    rw [e1, e2] at this
    exact this.symm
  have e3 : (N / gcdI b N).toNat = n' := by
    have : N = gcdI b N * n' := by unfold gcdI; omega
    have h4 : N / gcdI b N = n' := by
      conv => lhs; lhs; rw [this]
      exact Int.mul_ediv_cancel_left _ (by unfold gcdI; omega)
    rw [h4]; simp
  rw [e3, ← Int.natAbs_dvd_natAbs, Int.natAbs_mul, Int.natAbs_natCast]
  constructor
  · intro h
    rw [hn, hm, show k * (Int.gcd b N * m') = Int.gcd b N * (k * m') by rw [Nat.mul_left_comm], Nat.mul_dvd_mul_iff_left hg] at h
    exact hco.dvd_of_dvd_mul_right h
  · intro h
    rw [hn, hm, show k * (Int.gcd b N * m') = Int.gcd b N * (k * m') by rw [Nat.mul_left_comm], Nat.mul_dvd_mul_iff_left hg]
    exact Nat.dvd_trans h (Nat.dvd_mul_right _ _)
theorem Cel.afters_ok {c : Cel} {r : Rul} (h : c.ok = true) (hr : r.ok = true) : ∀ k, (c.afters r k).ok = true
  | 0 => h
  | k + 1 => Cel.after_ok (Cel.afters_ok h hr k) hr
theorem Cel.placed_eq {c : Cel} {p : Int} : c.placed p = c ↔ p = c.h := by
  constructor
  · intro h
    have := congrArg Cel.e h
    simp only [Cel.placed] at this
    omega
  · rintro rfl; exact Cel.placed_self c
theorem Cel.afters_shift {c : Cel} {r : Rul} (h : c.ok = true) (hr : r.ok = true) (hk : r.k = 2) : ∀ k : Nat, c.afters r k = c.placed ((c.h + (k : Int) * r.b) % c.size)
  | 0 => by
    have hf := Cel.facts h
    have : (c.h + ((0 : Nat) : Int) * r.b) % c.size = c.h := by
      rw [show c.h + ((0 : Nat) : Int) * r.b = c.h by simp]
      exact Int.emod_eq_of_lt (by omega) (by unfold Cel.size; omega)
    rw [this, Cel.placed_self]; rfl
  | k + 1 => by
    have hf := Cel.facts h
    have hz : c.size ≠ 0 := by unfold Cel.size; omega
    have h1 := Int.emod_nonneg (c.h + (k : Int) * r.b) hz
    have h2 := Int.emod_lt_of_pos (c.h + (k : Int) * r.b) (show 0 < c.size by unfold Cel.size; omega)
    have hs : c.size = c.h + c.v + 1 := rfl
    have hp := Cel.placed_h (c := c) (p := (c.h + (k : Int) * r.b) % c.size) h (by omega) (by omega)
    show (c.afters r k).after r = _
    rw [Cel.afters_shift h hr hk k]
    unfold Cel.after
    rw [Cel.placed_placed h (by omega) (by omega), hp.1, hp.2]
    congr 1
    unfold Rul.turn
    rw [if_neg (by omega), if_neg (by omega)]
    rw [show (c.h + (k : Int) * r.b) % c.size + (c.h + c.v - (c.h + (k : Int) * r.b) % c.size) + 1 = c.size by unfold Cel.size; omega]
    rw [show c.h + ((k + 1 : Nat) : Int) * r.b = (c.h + (k : Int) * r.b) + r.b by rw [Int.natCast_add, Int.add_mul]; simp [Int.add_assoc]]
    simp
theorem Cel.order_pos {c : Cel} {r : Rul} (h : c.ok = true) : 1 ≤ c.size / gcdI r.b c.size := by
  have hf := Cel.facts h
  have hg := gcdI_pos (a := r.b) (b := c.size) (by unfold Cel.size; omega)
  exact (Int.le_ediv_iff_mul_le (by omega)).2 (by omega)
/-- Back after so many times, and not before. -/
theorem Cel.order_law {c : Cel} {r : Rul} (h : c.ok = true) (hr : r.ok = true) (k : Nat) (h1 : 1 ≤ k) (h2 : (k : Int) ≤ (c.order r).1) : c.afters r k = c ↔ (k : Int) = (c.order r).1 := by
  have hf := Cel.facts h
  have hu := Cel.after_undone h hr
  have hrk := Rul.ok_iff.1 hr
  have ho : c.order r = (if r.k = 2 then (c.size / gcdI r.b c.size, 0) else if c.after r = c then (1, 0) else (2, 0)) := by simp [Cel.order, h, hr]
  rw [ho] at h2 ⊢
  by_cases hk : r.k = 2
  · rw [if_pos hk] at h2 ⊢
    simp only at h2 ⊢
    have hp := Cel.order_pos (r := r) h
    rw [Cel.afters_shift h hr hk, Cel.placed_eq]
    have hz : 0 < c.size := by unfold Cel.size; omega
    have e1 : (c.h + (k : Int) * r.b) % c.size = c.h ↔ c.size ∣ (k : Int) * r.b := by
      have h3 : c.h % c.size = c.h := Int.emod_eq_of_lt (by omega) (by unfold Cel.size; omega)
      constructor
      · intro e
        have e2 : (c.h + (k : Int) * r.b - c.h) % c.size = 0 := by rw [Int.sub_emod, e, h3]; simp
        have := Int.dvd_of_emod_eq_zero e2
        rwa [show c.h + (k : Int) * r.b - c.h = (k : Int) * r.b by omega] at this
      · intro ⟨q, e⟩
        rw [e, Int.add_mul_emod_self_left, h3]
    rw [e1, dvd_iff _ _ hz]
    constructor
    · intro ⟨q, hq⟩
      have hq1 : q ≠ 0 := by rintro rfl; omega
      have : (c.size / gcdI r.b c.size).toNat * 1 ≤ (c.size / gcdI r.b c.size).toNat * q := Nat.mul_le_mul_left _ (by omega)
      omega
    · intro e
      rw [← e]; simp
  · rw [if_neg hk] at h2 ⊢
    have h3 : r.k = 0 ∨ r.k = 1 := by omega
    have hb : r.b = 0 := by omega
    have hinv : r.inv = r := by rw [Rul.eq_iff]; simp [Rul.inv, hb]
    rw [hinv] at hu
    by_cases ha : c.after r = c
    · rw [if_pos ha] at h2 ⊢
      simp only at h2 ⊢
      obtain rfl : k = 1 := by omega
      simp [Cel.afters, ha]
    · rw [if_neg ha] at h2 ⊢
      simp only at h2 ⊢
      have : k = 1 ∨ k = 2 := by omega
      rcases this with rfl | rfl
      · simp [Cel.afters, ha]
      · simp [Cel.afters, hu.1]
theorem Cel.order_ok {c : Cel} {r : Rul} (h : (c.order r).2 = 0) : c.ok = true ∧ r.ok = true := by
  unfold Cel.order at h
  cases h1 : c.ok <;> cases h2 : r.ok <;> simp [h1, h2] at h ⊢
theorem Cel.order_nn (c : Cel) (r : Rul) : 0 ≤ (c.order r).1 := by
  unfold Cel.order
  cases h : c.ok with
  | false => simp
  | true =>
    have h9 := Cel.order_pos (r := r) h
    cases h2 : r.ok with
    | false => simp
    | true =>
      simp only [Bool.and_self, if_true]
      split
      · simp only; omega
      · split <;> simp
/-- A cell is that of its class at its place. -/
theorem Cel.back {c : Cel} (h : c.ok = true) : ofC (c.e + c.n + c.w + c.s) (c.e - c.w) (c.n - c.s) c.h = (c, 0) ∧ (c.norm).2 = 0 ∧ (c.place).2.2 = 0 := by
  have hf := Cel.facts h
  refine ⟨?_, by simp [Cel.norm, h], by simp [Cel.place, h]⟩
  unfold ofC
  rw [if_pos (by omega), if_pos (by omega)]
  congr 1
  rw [Cel.eq_iff]
  simp only
  omega
end Go.Sy
