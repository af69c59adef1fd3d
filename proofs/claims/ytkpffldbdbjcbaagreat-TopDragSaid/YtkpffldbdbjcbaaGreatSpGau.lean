/- Gauges: what they tell; blurred, joined. -/
import Derived.Test.YtkpffldbdbjcbaaGreatSyK
set_option linter.unusedSimpArgs false
set_option linter.unusedVariables false
namespace Go.Sy
theorem res_fB {f : BF} (h : f.b = false) : den (ofConst (.bool false)) = den (.bool f) := by simp [den, den_ofConst, h]
/-- A gauge's spans and steps lie in their ranges. -/
def Gau.Ok (u : Gau) : Prop := ((-1000000000 ≤ u.bl ∧ u.bl ≤ u.bh ∧ u.bh ≤ 1000000000) ∧ (-1000000000 ≤ u.il ∧ u.il ≤ u.ih ∧ u.ih ≤ 1000000000)) ∧ ((-1000000000 ≤ u.ol ∧ u.ol ≤ u.oh ∧ u.oh ≤ 1000000000) ∧ (-1000000000 ≤ u.al ∧ u.al ≤ u.ah ∧ u.ah ≤ 1000000000)) ∧ (0 ≤ u.f ∧ u.f < u.t ∧ u.t ≤ 1000000)
instance (u : Gau) : Decidable u.Ok := by unfold Gau.Ok; infer_instance
def Gau.ok (u : Gau) : Bool := decide u.Ok
theorem gau_ok {u : Gau} (h : u.ok = true) : u.Ok := of_decide_eq_true h
theorem gau_f {u : Gau} (h : ¬ u.Ok) : u.ok = false := decide_eq_false h
theorem gau_t {u : Gau} (h : u.Ok) : u.ok = true := decide_eq_true h
theorem gau_ways (u : Gau) : (u.ok = false ∧ ¬ u.Ok) ∨ (u.ok = true ∧ u.Ok) := by
  by_cases h : u.Ok
  · exact .inr ⟨gau_t h, h⟩
  · exact .inl ⟨gau_f h, h⟩
def Gau.lo (u : Gau) : Int := u.bl + u.il - u.oh - u.ah
def Gau.hi (u : Gau) : Int := u.bh + u.ih - u.ol - u.al
/-- What a gauge tells, with its error. -/
def gauE (u : Gau) : Int := if u.ok then 0 else 1
def gauLo (u : Gau) : Int := if u.ok then u.lo else 0
def gauHi (u : Gau) : Int := if u.ok then u.hi else 0
/-- A gauge with wider spans. -/
def Gau.blur (u : Gau) (q : Int) : Gau := ⟨u.f, u.t, max (u.bl - q) (-1000000000), min (u.bh + q) 1000000000, max (u.il - q) (-1000000000), min (u.ih + q) 1000000000, max (u.ol - q) (-1000000000), min (u.oh + q) 1000000000, max (u.al - q) (-1000000000), min (u.ah + q) 1000000000⟩
def blrE (u : Gau) (q : Int) : Int := if u.ok then (if 0 ≤ q ∧ q ≤ 1000000000 then 0 else 7) else 1
def blrR (u : Gau) (q : Int) : Gau := if blrE u q = 0 then u.blur q else ⟨0, 0, 0, 0, 0, 0, 0, 0, 0, 0⟩
theorem blr_ways (u : Gau) (q : Int) : (u.ok = false ∧ ¬ u.Ok ∧ blrE u q = 1 ∧ blrR u q = ⟨0, 0, 0, 0, 0, 0, 0, 0, 0, 0⟩) ∨ (u.ok = true ∧ u.Ok ∧ ¬ (0 ≤ q ∧ q ≤ 1000000000) ∧ blrE u q = 7 ∧ blrR u q = ⟨0, 0, 0, 0, 0, 0, 0, 0, 0, 0⟩) ∨
    (u.ok = true ∧ u.Ok ∧ (0 ≤ q ∧ q ≤ 1000000000) ∧ blrE u q = 0 ∧ blrR u q = u.blur q) := by
  rcases gau_ways u with ⟨h1, h2⟩ | ⟨h1, h2⟩
  · exact .inl ⟨h1, h2, by simp [blrE, h1], by simp [blrR, blrE, h1]⟩
  · by_cases hq : 0 ≤ q ∧ q ≤ 1000000000
    · exact .inr (.inr ⟨h1, h2, hq, by simp [blrE, h1, hq], by simp [blrR, blrE, h1, hq]⟩)
    · exact .inr (.inl ⟨h1, h2, hq, by simp only [blrE, h1, if_true, if_neg hq], by simp only [blrR, blrE, h1, if_true, if_neg hq]; rfl⟩)
theorem blur_ok {u : Gau} {q : Int} (h : u.Ok) (hq : 0 ≤ q ∧ q ≤ 1000000000) : (u.blur q).Ok := by
  unfold Gau.Ok Gau.blur at *
  simp only
  omega
/-- A number is in what a gauge tells. -/
def hasB (u : Gau) (n : Int) : Bool := decide (u.Ok ∧ u.lo ≤ n ∧ n ≤ u.hi)
/-- Two gauges, one behind the other. -/
def Gau.join (u v : Gau) : Gau := ⟨u.f, v.t, u.bl, u.bh, u.il + v.il, u.ih + v.ih, u.ol + v.ol, u.oh + v.oh, v.al, v.ah⟩
def jnE (u v : Gau) : Int := if u.ok && v.ok then (if u.t = v.f then (if (u.join v).ok then 0 else 4) else 10) else 1
def jnR (u v : Gau) : Gau := if jnE u v = 0 then u.join v else ⟨0, 0, 0, 0, 0, 0, 0, 0, 0, 0⟩
theorem jn_ways (u v : Gau) : (u.ok = false ∧ ¬ u.Ok ∧ jnE u v = 1 ∧ jnR u v = ⟨0, 0, 0, 0, 0, 0, 0, 0, 0, 0⟩) ∨ (u.ok = true ∧ u.Ok ∧ v.ok = false ∧ ¬ v.Ok ∧ jnE u v = 1 ∧ jnR u v = ⟨0, 0, 0, 0, 0, 0, 0, 0, 0, 0⟩) ∨
    (u.ok = true ∧ u.Ok ∧ v.ok = true ∧ v.Ok ∧ u.t ≠ v.f ∧ jnE u v = 10 ∧ jnR u v = ⟨0, 0, 0, 0, 0, 0, 0, 0, 0, 0⟩) ∨
    (u.ok = true ∧ u.Ok ∧ v.ok = true ∧ v.Ok ∧ u.t = v.f ∧ (u.join v).ok = false ∧ jnE u v = 4 ∧ jnR u v = ⟨0, 0, 0, 0, 0, 0, 0, 0, 0, 0⟩) ∨
    (u.ok = true ∧ u.Ok ∧ v.ok = true ∧ v.Ok ∧ u.t = v.f ∧ (u.join v).ok = true ∧ jnE u v = 0 ∧ jnR u v = u.join v) := by
  rcases gau_ways u with ⟨h1, h2⟩ | ⟨h1, h2⟩
  · exact .inl ⟨h1, h2, by simp [jnE, h1], by simp [jnR, jnE, h1]⟩
  · rcases gau_ways v with ⟨h3, h4⟩ | ⟨h3, h4⟩
    · exact .inr (.inl ⟨h1, h2, h3, h4, by simp [jnE, h1, h3], by simp [jnR, jnE, h1, h3]⟩)
    · by_cases ht : u.t = v.f
      · cases hj : (u.join v).ok
        · exact .inr (.inr (.inr (.inl ⟨h1, h2, h3, h4, ht, rfl, by simp [jnE, h1, h3, ht, hj], by simp [jnR, jnE, h1, h3, ht, hj]⟩)))
        · exact .inr (.inr (.inr (.inr ⟨h1, h2, h3, h4, ht, rfl, by simp [jnE, h1, h3, ht, hj], by simp [jnR, jnE, h1, h3, ht, hj]⟩)))
      · exact .inr (.inr (.inl ⟨h1, h2, h3, h4, ht, by simp [jnE, h1, h3, ht], by simp [jnR, jnE, h1, h3, ht]⟩))
/-- All of them are valid, and there are not too few nor too many. -/
def gausB (l : List Gau) : Bool := decide (1 ≤ l.length ∧ l.length ≤ 60 ∧ ∀ i, i < l.length → (l.getD i default).ok = true)
theorem gaus_t {l : List Gau} (h1 : 1 ≤ l.length) (h2 : l.length ≤ 60) (h : ∀ i, i < l.length → (l.getD i default).ok = true) : gausB l = true := decide_eq_true ⟨h1, h2, h⟩
theorem gaus_n {l : List Gau} (h : ¬ (1 ≤ l.length ∧ l.length ≤ 60)) : gausB l = false := decide_eq_false fun q => h ⟨q.1, q.2.1⟩
theorem gaus_f {l : List Gau} {k : Nat} (hk : k < l.length) (h : (l.getD k default).ok = false) : gausB l = false := decide_eq_false fun q => by
  have := q.2.2 k hk
  rw [h] at this; cases this
theorem gaus_ok {l : List Gau} (h : gausB l = true) : 1 ≤ l.length ∧ l.length ≤ 60 ∧ ∀ i, i < l.length → (l.getD i default).Ok := by
  obtain ⟨a, b, c⟩ := of_decide_eq_true h
  exact ⟨a, b, fun i hi => gau_ok (c i hi)⟩
theorem gaus_more {l : List Gau} {k : Nat} (h : ∀ j, j < k → (l.getD j default).ok = true) (hk : (l.getD k default).ok = true) : ∀ j, j < k + 1 → (l.getD j default).ok = true := fun j hj => by
  by_cases e : j = k
  · subst e; exact hk
  · exact h j (by omega)
/-- What is asked of gauges and a stretch. -/
def strE (l : List Gau) (a c : Int) : Int := if gausB l then (if 0 ≤ a ∧ a < c ∧ c ≤ 1000000 then 0 else 7) else 1
theorem str_ways (l : List Gau) (a c : Int) : (gausB l = false ∧ strE l a c = 1) ∨ (gausB l = true ∧ ¬ (0 ≤ a ∧ a < c ∧ c ≤ 1000000) ∧ strE l a c = 7) ∨ (gausB l = true ∧ (0 ≤ a ∧ a < c ∧ c ≤ 1000000) ∧ strE l a c = 0) := by
  unfold strE
  cases gausB l
  · exact .inl ⟨rfl, rfl⟩
  · by_cases h : 0 ≤ a ∧ a < c ∧ c ≤ 1000000
    · exact .inr (.inr ⟨rfl, h, by simp only [if_true, if_pos h]⟩)
    · exact .inr (.inl ⟨rfl, h, by simp only [if_true, if_neg h]⟩)
end Go.Sy
