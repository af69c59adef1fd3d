/- Mixes of two grids; parts of a mix. -/
import Derived.Test.YtghflfilemhaoaaSpPhase
set_option linter.unusedSimpArgs false
set_option linter.unusedVariables false
namespace Go.Sy
def ofE (a b : Grd) : Int := if a.ok && b.ok then (if a.w = b.w ∧ a.h = b.h then (if massL a.cs + massL b.cs ≤ 1000000000 then 0 else 4) else 9) else 1
def ofM (a b : Grd) : Mix := if ofE a b = 0 then ⟨a.w, a.h, a.cs, b.cs⟩ else ⟨0, 0, [], []⟩
theorem of_ways (a b : Grd) : (a.ok = false ∧ True ∧ True ∧ True ∧ ofE a b = 1 ∧ ofM a b = ⟨0, 0, [], []⟩) ∨ (a.ok = true ∧ b.ok = false ∧ True ∧ True ∧ ofE a b = 1 ∧ ofM a b = ⟨0, 0, [], []⟩) ∨
    (a.ok = true ∧ b.ok = true ∧ ¬ (a.w = b.w ∧ a.h = b.h) ∧ True ∧ ofE a b = 9 ∧ ofM a b = ⟨0, 0, [], []⟩) ∨
    (a.ok = true ∧ b.ok = true ∧ (a.w = b.w ∧ a.h = b.h) ∧ (⟨a.w, a.h, a.cs, b.cs⟩ : Mix).ok = false ∧ ofE a b = 4 ∧ ofM a b = ⟨0, 0, [], []⟩ ∧ (1 ≤ a.cs.length ∧ a.cs.length ≤ 1024 ∧ b.cs.length = a.cs.length ∧ 1000000000 < massL a.cs + massL b.cs ∧ a.mass = massL a.cs ∧ b.mass = massL b.cs ∧ a.err = 0 ∧ b.err = 0 ∧ 0 ≤ massL a.cs ∧ massL a.cs ≤ 1000000000 ∧ 0 ≤ massL b.cs ∧ massL b.cs ≤ 1000000000)) ∨
    (a.ok = true ∧ b.ok = true ∧ (a.w = b.w ∧ a.h = b.h) ∧ (⟨a.w, a.h, a.cs, b.cs⟩ : Mix).ok = true ∧ ofE a b = 0 ∧ ofM a b = ⟨a.w, a.h, a.cs, b.cs⟩ ∧ (1 ≤ a.cs.length ∧ a.cs.length ≤ 1024 ∧ b.cs.length = a.cs.length ∧ massL a.cs + massL b.cs ≤ 1000000000 ∧ a.mass = massL a.cs ∧ b.mass = massL b.cs ∧ a.err = 0 ∧ b.err = 0 ∧ 0 ≤ massL a.cs ∧ massL a.cs ≤ 1000000000 ∧ 0 ≤ massL b.cs ∧ massL b.cs ≤ 1000000000)) := by
  have hG : ofE a b ≠ 0 → ofM a b = ⟨0, 0, [], []⟩ := fun h => if_neg h
  cases ha : a.ok
  · have he : ofE a b = 1 := by simp [ofE, ha]
    exact .inl ⟨rfl, trivial, trivial, trivial, he, hG (by omega)⟩
  cases hb : b.ok
  · have he : ofE a b = 1 := by simp [ofE, ha, hb]
    exact .inr (.inl ⟨rfl, rfl, trivial, trivial, he, hG (by omega)⟩)
  rcases Decidable.em (a.w = b.w ∧ a.h = b.h) with hs | hs
  · have g1 := gok_bds ha
    have g2 := gok_bds hb
    have t1 := Grd.tell_t ha
    have t2 := Grd.tell_t hb
    have hl : b.cs.length = a.cs.length := by
      have q1 := g1.2.2.2.2.2.1
      have q2 := g2.2.2.2.2.2.1
      rw [← hs.1, ← hs.2, ← q1] at q2; omega
    have eb : (⟨a.w, a.h, b.cs⟩ : Grd) = b := by rw [hs.1, hs.2]
    have hk : (⟨a.w, a.h, a.cs, b.cs⟩ : Mix).ok = decide (massL a.cs + massL b.cs ≤ 1000000000) := by
      show ((⟨a.w, a.h, a.cs⟩ : Grd).ok && ((⟨a.w, a.h, b.cs⟩ : Grd).ok && decide (massL a.cs + massL b.cs ≤ 1000000000))) = _
      rw [eb, hb]
      have : (⟨a.w, a.h, a.cs⟩ : Grd).ok = true := ha
      rw [this]; rfl
    rcases Decidable.em (massL a.cs + massL b.cs ≤ 1000000000) with hm | hm
    · have he : ofE a b = 0 := by unfold ofE; rw [ha, hb, Bool.and_true, if_pos rfl, if_pos hs, if_pos hm]
      exact .inr (.inr (.inr (.inr ⟨rfl, rfl, hs, by rw [hk]; exact decide_eq_true hm, he, if_pos he, g1.2.2.2.2.2.2.2.1, g1.2.2.2.2.2.2.1, hl, hm, t1.2.1, t2.2.1, t1.1, t2.1, g1.2.2.2.2.2.2.2.2.1, g1.2.2.2.2.2.2.2.2.2, g2.2.2.2.2.2.2.2.2.1, g2.2.2.2.2.2.2.2.2.2⟩)))
    · have he : ofE a b = 4 := by unfold ofE; rw [ha, hb, Bool.and_true, if_pos rfl, if_pos hs, if_neg hm]
      exact .inr (.inr (.inr (.inl ⟨rfl, rfl, hs, by rw [hk]; exact decide_eq_false hm, he, hG (by omega), g1.2.2.2.2.2.2.2.1, g1.2.2.2.2.2.2.1, hl, by omega, t1.2.1, t2.2.1, t1.1, t2.1, g1.2.2.2.2.2.2.2.2.1, g1.2.2.2.2.2.2.2.2.2, g2.2.2.2.2.2.2.2.2.1, g2.2.2.2.2.2.2.2.2.2⟩)))
  · have he : ofE a b = 9 := by unfold ofE; rw [ha, hb, Bool.and_true, if_pos rfl, if_neg hs]
    exact .inr (.inr (.inl ⟨rfl, rfl, hs, trivial, he, hG (by omega)⟩))
def pA (x : Mix) : Grd := if x.ok then ⟨x.w, x.h, x.a⟩ else ⟨0, 0, []⟩
def pB (x : Mix) : Grd := if x.ok then ⟨x.w, x.h, x.b⟩ else ⟨0, 0, []⟩
def bothG (x : Mix) : Grd := if x.ok then ⟨x.w, x.h, addC x.a x.b⟩ else ⟨0, 0, []⟩
theorem part_ways (x : Mix) : (x.ok = false ∧ x.err = 1 ∧ pA x = ⟨0, 0, []⟩ ∧ pB x = ⟨0, 0, []⟩ ∧ bothG x = ⟨0, 0, []⟩) ∨ (x.ok = true ∧ x.err = 0 ∧ pA x = ⟨x.w, x.h, x.a⟩ ∧ pB x = ⟨x.w, x.h, x.b⟩ ∧ bothG x = ⟨x.w, x.h, addC x.a x.b⟩ ∧
    (⟨x.w, x.h, x.a⟩ : Grd).ok = true ∧ (⟨x.w, x.h, x.b⟩ : Grd).ok = true ∧ addE ⟨x.w, x.h, x.a⟩ ⟨x.w, x.h, x.b⟩ = 0 ∧ addG ⟨x.w, x.h, x.a⟩ ⟨x.w, x.h, x.b⟩ = ⟨x.w, x.h, addC x.a x.b⟩ ∧ (x.a.length = x.b.length ∧ 1 ≤ x.a.length ∧ x.a.length ≤ 1024) ∧ ofE (pA x) (pB x) = 0 ∧ ofM (pA x) (pB x) = x) := by
  rcases mfull x with ⟨hv, he⟩ | ⟨hv, he, ha, hb, e1, e2, m1, m2, o1, o2, hm, hl, q1, q2, f1, f2, f3, f4, f5, f6⟩
  · exact .inl ⟨hv, he, by simp [pA, hv], by simp [pB, hv], by simp [bothG, hv]⟩
  · have eA : pA x = ⟨x.w, x.h, x.a⟩ := by simp [pA, hv]
    have eB : pB x = ⟨x.w, x.h, x.b⟩ := by simp [pB, hv]
    have hE : ofE (pA x) (pB x) = 0 := by
      unfold ofE
      rw [eA, eB, ha, hb, Bool.and_true, if_pos rfl, if_pos ⟨rfl, rfl⟩, if_pos hm]
    refine .inr ⟨hv, he, eA, eB, by simp [bothG, hv], ha, hb, f1, f2, ⟨hl.2.2.1, hl.2.2.2⟩, hE, ?_⟩
    unfold ofM
    rw [if_pos hE, eA, eB]
theorem of_len (a b : Grd) : (ofM a b).a.length ≤ a.cs.length ∧ (ofM a b).b.length ≤ b.cs.length := by
  unfold ofM; split <;> simp
theorem pt_len (x : Mix) : (pA x).cs.length ≤ x.a.length ∧ (pB x).cs.length ≤ x.b.length := by
  unfold pA pB; split <;> simp
end Go.Sy
