/- Runs of a grid by a list of rules. -/
import Derived.Test.YtkaebgfhbgicfaaSpRun
set_option linter.unusedSimpArgs false
set_option linter.unusedVariables false
set_option linter.unusedSectionVars false
namespace Go.Sy
def rho (l : List Rul) (t : Int) (k : Nat) : Rul := l.getD ((t + (k : Int)).tmod (l.length : Int)).toNat default
def timesP (t n : Int) : Prop := (0 ≤ t ∧ t ≤ 1000000) ∧ (0 ≤ n ∧ n ≤ 1000) ∧ (0 < n → t + n - 1 ≤ 1000000)
instance (t n : Int) : Decidable (timesP t n) := by unfold timesP; exact inferInstance
def runE (g : Grd) (l : List Rul) (t n : Int) : Int := if g.ok && rulesB l then (if timesP t n then 0 else 7) else 1
def runG (g : Grd) (l : List Rul) (t n : Int) : Grd := if runE g l t n = 0 then ⟨g.w, g.h, runC g.w g.h (rho l t) g.cs n.toNat⟩ else ⟨0, 0, []⟩
def undoG (g : Grd) (l : List Rul) (t n : Int) : Grd := if runE g l t n = 0 then ⟨g.w, g.h, bakC g.w g.h (fun i => rho l t (n.toNat - 1 - i)) g.cs n.toNat⟩ else ⟨0, 0, []⟩
theorem rho_ok {l : List Rul} (h : rulesB l = true) {t : Int} (ht : 0 ≤ t) (k : Nat) : (rho l t k).ok = true ∧ 0 ≤ (t + (k : Int)).tmod (l.length : Int) ∧ (t + (k : Int)).tmod (l.length : Int) < l.length := by
  obtain ⟨⟨h1, h2⟩, h3⟩ := rulesB_iff.1 h
  have hm := mod_len (s := t + (k : Int)) (n := l.length) (by omega) h1
  exact ⟨getD_ok h3 hm.2.2, hm.1, hm.2.1⟩
theorem run_ways (g : Grd) (l : List Rul) (t n : Int) : (g.ok = false ∧ True ∧ True ∧ runE g l t n = 1 ∧ runG g l t n = ⟨0, 0, []⟩ ∧ undoG g l t n = ⟨0, 0, []⟩) ∨ (g.ok = true ∧ rulesB l = false ∧ True ∧ runE g l t n = 1 ∧ runG g l t n = ⟨0, 0, []⟩ ∧ undoG g l t n = ⟨0, 0, []⟩) ∨
    (g.ok = true ∧ rulesB l = true ∧ ¬ ((0 ≤ t ∧ t ≤ 1000000) ∧ (0 ≤ n ∧ n ≤ 1000) ∧ (0 < n → t + n - 1 ≤ 1000000)) ∧ runE g l t n = 7 ∧ runG g l t n = ⟨0, 0, []⟩ ∧ undoG g l t n = ⟨0, 0, []⟩) ∨
    (g.ok = true ∧ rulesB l = true ∧ ((0 ≤ t ∧ t ≤ 1000000) ∧ (0 ≤ n ∧ n ≤ 1000) ∧ (0 < n → t + n - 1 ≤ 1000000)) ∧ runE g l t n = 0 ∧ runG g l t n = ⟨g.w, g.h, runC g.w g.h (rho l t) g.cs n.toNat⟩ ∧ undoG g l t n = ⟨g.w, g.h, bakC g.w g.h (fun i => rho l t (n.toNat - 1 - i)) g.cs n.toNat⟩ ∧
      (1 ≤ l.length ∧ l.length ≤ 8) ∧ (1 ≤ g.cs.length ∧ g.cs.length ≤ 1024) ∧ (∀ k, (rho l t k).ok = true ∧ 0 ≤ (t + (k : Int)).tmod (l.length : Int) ∧ (t + (k : Int)).tmod (l.length : Int) < l.length) ∧
      (∀ k, (⟨g.w, g.h, runC g.w g.h (rho l t) g.cs k⟩ : Grd).ok = true ∧ okL (runC g.w g.h (rho l t) g.cs k) = true ∧ (runC g.w g.h (rho l t) g.cs k).length = g.cs.length) ∧
      (∀ k, (⟨g.w, g.h, bakC g.w g.h (fun i => rho l t (n.toNat - 1 - i)) g.cs k⟩ : Grd).ok = true ∧ okL (bakC g.w g.h (fun i => rho l t (n.toNat - 1 - i)) g.cs k) = true ∧ (bakC g.w g.h (fun i => rho l t (n.toNat - 1 - i)) g.cs k).length = g.cs.length)) := by
  have no : runE g l t n ≠ 0 → runG g l t n = ⟨0, 0, []⟩ ∧ undoG g l t n = ⟨0, 0, []⟩ := fun h => ⟨if_neg h, if_neg h⟩
  cases h : g.ok
  · have e : runE g l t n = 1 := by simp [runE, h]
    have := no (by omega)
    exact .inl ⟨rfl, trivial, trivial, e, this.1, this.2⟩
  · cases hr : rulesB l
    · have e : runE g l t n = 1 := by simp [runE, hr]
      have := no (by omega)
      exact .inr (.inl ⟨rfl, rfl, trivial, e, this.1, this.2⟩)
    · by_cases ht : timesP t n
      · have e : runE g l t n = 0 := by simp [runE, h, hr, ht]
        have hb := gok_bds h
        have h1 := rulesB_iff.1 hr
        have ho := fun k => rho_ok hr ht.1.1 k
        refine .inr (.inr (.inr ⟨rfl, rfl, ht, e, if_pos e, if_pos e, h1.1, by omega, ho, fun k => ?_, fun k => ?_⟩))
        · have := runC_ok h (fun k => (ho k).1) k
          exact ⟨this, gok_okL this, runC_length ..⟩
        · have := bakC_ok h (ρ := fun i => rho l t (n.toNat - 1 - i)) (fun k => (ho _).1) k
          exact ⟨this, gok_okL this, bakC_length ..⟩
      · have e : runE g l t n = 7 := by simp only [runE, h, hr, Bool.and_true, if_true, if_neg ht]
        have := no (by omega)
        exact .inr (.inr (.inl ⟨rfl, rfl, ht, e, this.1, this.2⟩))
theorem aftc_fl {w h : Int} {r : Rul} (hr : r.ok = true) {cs : List Cel} (ho : okL cs = true) {k : Nat} (hk : cs.length ≤ k) : flow w h 1 (prog (fun j => ((cs.getD j default).collide r).1) k cs) = flow w h 1 (aft r cs) := by rw [aftc_prog hr ho hk]
theorem gcs_t {w h : Int} {cs : List Cel} {g : Grd} (e : decide ((⟨w, h, cs⟩ : Grd) = g) = true) : decide (cs = g.cs) = true := by
  have e := of_decide_eq_true e
  subst e; simp
theorem gcs_f {g : Grd} {cs : List Cel} (e : decide ((⟨g.w, g.h, cs⟩ : Grd) = g) = false) : decide (cs = g.cs) = false := by
  have e := of_decide_eq_false e
  exact decide_eq_false fun h => e (by rw [h])
theorem rho_one (r : Rul) (t : Int) (k : Nat) : rho [r] t k = r := by
  unfold rho
  rw [show (([r] : List Rul).length : Int) = 1 from rfl, Int.tmod_one]; rfl
theorem rules_one {r : Rul} (h : r.ok = true) : rulesB [r] = true := by simp [rulesB, h]
theorem per_law (g : Grd) (r : Rul) (most : Int) : (perV g r most).2 ≠ 0 ∨ ((perV g r most).2 = 0 ∧ g.ok = true ∧ runE g [r] 7 (perV g r most).1 = 0 ∧ runG g [r] 7 (perV g r most).1 = g ∧ 0 ≤ (perV g r most).1 ∧ (perV g r most).1 ≤ 1000) := by
  rcases perV_ways g r most with ⟨_, _, hP⟩ | ⟨_, _, hP⟩ | ⟨_, _, _, hP⟩ | ⟨hv, hr, hm, hP, hbb, hru⟩
  · exact .inl (by rw [hP]; simp)
  · exact .inl (by rw [hP]; simp)
  · exact .inl (by rw [hP]; simp)
  · by_cases h0 : (perV g r most).2 = 0
    · refine .inr ⟨h0, hv, ?_⟩
      rw [hP] at h0 ⊢
      obtain ⟨m, e1, e2, e3⟩ := per_back h0
      have hE : runE g [r] 7 (perF g.w g.h r g.cs most.toNat 0).1 = 0 := by
        rw [e1]; unfold runE
        rw [hv, rules_one hr, Bool.and_true, if_pos rfl, if_pos (show timesP 7 ((m : Int) + 1) by unfold timesP; omega)]
      refine ⟨hE, ?_, by omega, by omega⟩
      unfold runG
      rw [if_pos hE, e1, show ((m : Int) + 1).toNat = m + 1 by omega, runC_congr (σ := fun _ => r) fun i _ => rho_one r 7 i, e3]
    · exact .inl h0
end Go.Sy
