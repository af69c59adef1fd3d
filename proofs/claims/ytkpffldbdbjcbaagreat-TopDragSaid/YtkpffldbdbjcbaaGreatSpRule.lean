/- Lists of rules. -/
import Derived.Test.YtkpffldbdbjcbaaGreatSpOrder
set_option linter.unusedSimpArgs false
set_option linter.unusedVariables false
namespace Go.Sy
def rulesB (l : List Rul) : Bool := decide (1 ≤ l.length ∧ l.length ≤ 8) && l.all Rul.ok
theorem rulesB_iff {l : List Rul} : rulesB l = true ↔ (1 ≤ l.length ∧ l.length ≤ 8) ∧ ∀ r ∈ l, r.ok = true := by
  unfold rulesB; rw [Bool.and_eq_true, decide_eq_true_eq, List.all_eq_true]
theorem all_getD {l : List Rul} (h : ∀ j, j < l.length → (l.getD j default).ok = true) : ∀ r ∈ l, r.ok = true := fun r hr => by
  obtain ⟨j, hj, rfl⟩ := List.mem_iff_getElem.1 hr
  have := h j hj
  simpa [List.getD, hj] using this
theorem getD_ok {l : List Rul} (h : ∀ r ∈ l, r.ok = true) {j : Nat} (hj : j < l.length) : (l.getD j default).ok = true := h _ (by simp [List.getD, hj])
theorem rulesB_f {l : List Rul} {k : Nat} (hk : k < l.length) (h : (l.getD k default).ok = false) : rulesB l = false := by
  cases hb : rulesB l with
  | false => rfl
  | true => have := getD_ok (rulesB_iff.1 hb).2 hk; rw [h] at this; cases this
theorem rulesB_t {l : List Rul} {k : Nat} (h : ∀ j, j < k → (l.getD j default).ok = true) (hk : l.length ≤ k) : rulesB l = decide (1 ≤ (l.length : Int) ∧ (l.length : Int) ≤ 8) := by
  unfold rulesB
  rw [List.all_eq_true.2 (all_getD fun j hj => h j (by omega)), Bool.and_true]
  exact decide_eq_decide.2 (by omega)
theorem more_ok {l : List Rul} {k : Nat} (h : ∀ j, j < k → (l.getD j default).ok = true) (hk : (l.getD k default).ok = true) : ∀ j, j < k + 1 → (l.getD j default).ok = true := fun j hj => by
  rcases Nat.lt_succ_iff_lt_or_eq.1 hj with h1 | rfl
  · exact h j h1
  · exact hk
def atE (l : List Rul) (s : Int) : Int := if rulesB l then (if 0 ≤ s ∧ s ≤ 1000000 then 0 else 7) else 1
def atR (l : List Rul) (s : Int) : Rul := if rulesB l = true ∧ 0 ≤ s ∧ s ≤ 1000000 then l.getD (s.tmod l.length).toNat default else ⟨0, 0⟩
theorem mod_len {s : Int} {n : Nat} (hs : 0 ≤ s) (hn : 1 ≤ n) : 0 ≤ s.tmod (n : Int) ∧ s.tmod (n : Int) < n ∧ (s.tmod (n : Int)).toNat < n := by
  have h1 := Int.tmod_nonneg (n : Int) hs
  have h2 := Int.tmod_lt_of_pos s (show 0 < (n : Int) by omega)
  omega
theorem at_cases (l : List Rul) (s : Int) : rulesB l = false ∨ (rulesB l = true ∧ 1 ≤ l.length ∧ l.length ≤ 8 ∧ ¬ (0 ≤ s ∧ s ≤ 1000000)) ∨
    (rulesB l = true ∧ 1 ≤ l.length ∧ l.length ≤ 8 ∧ (0 ≤ s ∧ s ≤ 1000000) ∧ 0 ≤ s.tmod l.length ∧ s.tmod l.length < l.length ∧ (s.tmod l.length).toNat < l.length) := by
  cases h : rulesB l
  · exact .inl rfl
  · obtain ⟨⟨h1, h2⟩, _⟩ := rulesB_iff.1 h
    rcases Decidable.em (0 ≤ s ∧ s ≤ 1000000) with hs | hs
    · have := mod_len hs.1 h1
      exact .inr (.inr ⟨rfl, h1, h2, hs, this⟩)
    · exact .inr (.inl ⟨rfl, h1, h2, hs⟩)
end Go.Sy
