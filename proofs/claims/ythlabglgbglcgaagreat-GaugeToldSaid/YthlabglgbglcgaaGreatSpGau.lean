/- Gauges: what they tell; blurred, joined. -/
import Derived.Test.YthlabglgbglcgaaGreatSyK
set_option linter.unusedSimpArgs false
set_option linter.unusedVariables false
namespace Go.Sy
theorem res_fB {f : BF} (h : f.b = false) : den (ofConst (.bool false)) = den (.bool f) := by simp [den, den_ofConst, h]
/-- A gauge's spans and steps lie in their ranges. -/
def Gau.Ok (u : Gau) : Prop := ((-1000000000 ≤ u.bl ∧ u.bl ≤ u.bh ∧ u.bh ≤ 1000000000) ∧ (-1000000000 ≤ u.il ∧ u.il ≤ u.ih ∧ u.ih ≤ 1000000000)) ∧ ((-1000000000 ≤ u.ol ∧ u.ol ≤ u.oh ∧ u.oh ≤ 1000000000) ∧ (-1000000000 ≤ u.al ∧ u.al ≤ u.ah ∧ u.ah ≤ 1000000000)) ∧ (0 ≤ u.f ∧ u.f < u.t ∧ u.t ≤ 1000000)
instance (u : Gau) : Decidable u.Ok := by unfold Gau.Ok; infer_instance
def Gau.ok (u : Gau) : Bool := decide u.Ok
theorem gau_ok {u : Gau} (h : u.ok = true) : u.Ok := of_decide_eq_true h
theorem gau_f {u : Gau} (h : ¬ u.Ok) : u.ok = false := decide_eq_false h
theorem gau_t {u : Gau} (h : u.Ok) : u.ok = true := decide_eq_true h
theorem gau_ways (u : Gau) : (u.ok = false ∧ ¬ u.Ok) ∨ (u.ok = true ∧ u.Ok) := by
  by_cases h : u.Ok
  · exact .inr ⟨gau_t h, h⟩
  · exact .inl ⟨gau_f h, h⟩
def Gau.lo (u : Gau) : Int := u.bl + u.il - u.oh - u.ah
def Gau.hi (u : Gau) : Int := u.bh + u.ih - u.ol - u.al
/-- What a gauge tells, with its error. -/
def gauE (u : Gau) : Int := if u.ok then 0 else 1
def gauLo (u : Gau) : Int := if u.ok then u.lo else 0
def gauHi (u : Gau) : Int := if u.ok then u.hi else 0
/-- Two gauges, one behind the other. -/
def Gau.join (u v : Gau) : Gau := ⟨u.f, v.t, u.bl, u.bh, u.il + v.il, u.ih + v.ih, u.ol + v.ol, u.oh + v.oh, v.al, v.ah⟩
/-- All of them are valid, and there are not too few nor too many. -/
def gausB (l : List Gau) : Bool := decide (1 ≤ l.length ∧ l.length ≤ 60 ∧ ∀ i, i < l.length → (l.getD i default).ok = true)
theorem gaus_t {l : List Gau} (h1 : 1 ≤ l.length) (h2 : l.length ≤ 60) (h : ∀ i, i < l.length → (l.getD i default).ok = true) : gausB l = true := decide_eq_true ⟨h1, h2, h⟩
theorem gaus_n {l : List Gau} (h : ¬ (1 ≤ l.length ∧ l.length ≤ 60)) : gausB l = false := decide_eq_false fun q => h ⟨q.1, q.2.1⟩
theorem gaus_f {l : List Gau} {k : Nat} (hk : k < l.length) (h : (l.getD k default).ok = false) : gausB l = false := decide_eq_false fun q => by
  have := q.2.2 k hk
  rw [h] at this; cases this
theorem gaus_more {l : List Gau} {k : Nat} (h : ∀ j, j < k → (l.getD j default).ok = true) (hk : (l.getD k default).ok = true) : ∀ j, j < k + 1 → (l.getD j default).ok = true := fun j hj => by
  by_cases e : j = k
  · subst e; exact hk
  · exact h j (by omega)
/-- What is asked of gauges and a stretch. -/
def strE (l : List Gau) (a c : Int) : Int := if gausB l then (if 0 ≤ a ∧ a < c ∧ c ≤ 1000000 then 0 else 7) else 1
theorem str_ways (l : List Gau) (a c : Int) : (gausB l = false ∧ strE l a c = 1) ∨ (gausB l = true ∧ ¬ (0 ≤ a ∧ a < c ∧ c ≤ 1000000) ∧ strE l a c = 7) ∨ (gausB l = true ∧ (0 ≤ a ∧ a < c ∧ c ≤ 1000000) ∧ strE l a c = 0) := by
  unfold strE
  cases gausB l
  · exact .inl ⟨rfl, rfl⟩
  · by_cases h : 0 ≤ a ∧ a < c ∧ c ≤ 1000000
    · exact .inr (.inr ⟨rfl, h, by simp only [if_true, if_pos h]⟩)
    · exact .inr (.inl ⟨rfl, h, by simp only [if_true, if_neg h]⟩)
theorem gsame_f1 {a b : List Int} (h : a.length ≠ b.length) : decide (a = b) = false := decide_eq_false fun e => h (by rw [e])
theorem gsame_t {a b : List Int} {k : Nat} (hl : a.length = b.length) (h : a.take k = b.take k) (hk : a.length ≤ k) : decide (a = b) = true := by
  rw [List.take_of_length_le hk, List.take_of_length_le (by omega)] at h; simpa using h
theorem gsame_f2 {a b : List Int} {k : Nat} (ha : k < a.length) (hb : k < b.length) (h : ¬ (a.getD k 0 = b.getD k 0)) : decide (a = b) = false := decide_eq_false fun e => h (by rw [e])
theorem gsame_next {a b : List Int} {k : Nat} (ha : k < a.length) (hb : k < b.length) (h : a.take k = b.take k) (he : a.getD k 0 = b.getD k 0) : a.take (k + 1) = b.take (k + 1) := by
  rw [List.getD_eq_getElem?_getD, List.getElem?_eq_getElem ha, List.getD_eq_getElem?_getD, List.getElem?_eq_getElem hb] at he
  rw [List.take_add_one, List.take_add_one, h, List.getElem?_eq_getElem ha, List.getElem?_eq_getElem hb]
  simp only [Option.getD_some] at he
  rw [he]
end Go.Sy
