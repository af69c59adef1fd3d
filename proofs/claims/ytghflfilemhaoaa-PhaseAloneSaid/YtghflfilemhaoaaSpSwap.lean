/- Phases that are swapped: a step of the swapped mix is the swapped step. -/
import Derived.Test.YtghflfilemhaoaaSpDeed
set_option linter.unusedSimpArgs false
set_option linter.unusedVariables false
set_option linter.unusedSectionVars false
namespace Go.Sy
def Prr.swap (p : Prr) : Prr := ⟨p.b, p.a⟩
theorem dx_swap {s : Rul} (hs : s.ok = true) (hk : s.k ≠ 2) {k : Int} (h01 : k = 0 ∨ k = 1) (p : Prr) : ddx k s p.swap = (ddx k s p).swap := by
  obtain ⟨c, b⟩ := s
  have h2 := Rul.ok_iff.1 hs
  simp only at h2 hk
  have : b = 0 := by omega
  subst this
  obtain ⟨p, q⟩ := p
  rcases (show c = 0 ∨ c = 1 by omega) with rfl | rfl
  · have e : ∀ d : Cel, d.after ⟨0, 0⟩ = d := fun d => by
      rw [Cel.eq_iff]; simp [Cel.after, Cel.placed, Rul.turn]
    unfold ddx Prr.swap xchA xchB
    simp only [e]
    rcases h01 with rfl | rfl <;> simp [backA, backB, meetC]
  · have e : ∀ d : Cel, d.after ⟨1, 0⟩ = ⟨d.e + (d.v - d.h), d.n - (d.v - d.h), d.w + (d.v - d.h), d.s - (d.v - d.h)⟩ := fun d => by
      rw [Cel.eq_iff]; simp [Cel.after, Cel.placed, Rul.turn]; omega
    unfold ddx Prr.swap xchA xchB
    simp only [e]
    rcases h01 with rfl | rfl
    · simp only [backA, backB, meetC, Cel.h, Cel.v, if_true, Prr.mk.injEq, Cel.mk.injEq, true_and, and_true]
      refine ⟨⟨?_, ?_⟩, ?_, ?_⟩ <;> omega
    · simp only [backA, backB, meetC, Cel.h, Cel.v, Int.one_ne_zero, if_false, Prr.mk.injEq, Cel.mk.injEq, true_and, and_true]
      refine ⟨⟨?_, ?_⟩, ?_, ?_⟩ <;> omega
theorem fw_swap {r s : Rul} (hs : s.ok = true) (hk : s.k ≠ 2) (p : Prr) : mfw r s p.swap = (mfw r s p).swap := by
  unfold mfw
  have e : dd0 r p.swap = (dd0 r p).swap := rfl
  rw [e, dx_swap hs hk (.inl rfl), dx_swap hs hk (.inr rfl)]
theorem zA_swap {f : Prr → Prr} (hf : ∀ p : Prr, f p.swap = (f p).swap) {A B : List Cel} (hl : A.length = B.length) : zA f B A = zB f A B ∧ zB f B A = zA f A B := by
  have e : ∀ j, f ⟨B.getD j default, A.getD j default⟩ = (f ⟨A.getD j default, B.getD j default⟩).swap := fun j => hf ⟨A.getD j default, B.getD j default⟩
  unfold zA zB
  rw [hl]
  exact ⟨tab_congr fun j _ => by rw [e]; rfl, tab_congr fun j _ => by rw [e]; rfl⟩
def swapM (x : Mix) : Mix := ⟨x.w, x.h, x.b, x.a⟩
theorem swap_ok {x : Mix} (h : x.ok = true) : (swapM x).ok = true := by
  obtain ⟨h1, h2, h3⟩ := mix_iff.1 (show (⟨x.w, x.h, x.a, x.b⟩ : Mix).ok = true from h)
  exact mix_iff.2 ⟨h2, h1, by omega⟩
theorem swap_law (x : Mix) (l : List Rul) (r : Rul) : (mrunE x l [r] 3 1 ≠ 0 ∧ True ∧ True ∧ True ∧ True ∧ (r.k = 2 ∨ r.k ≠ 2 ∧ True ∧ True)) ∨ (mrunE x l [r] 3 1 = 0 ∧ x.ok = true ∧ (mrunG x l [r] 3 1).ok = true ∧ x.err = 0 ∧ (mrunG x l [r] 3 1).err = 0 ∧ (r.k = 2 ∨ r.k ≠ 2 ∧ mrunE ⟨x.w, x.h, x.b, x.a⟩ l [r] 3 1 = 0 ∧ mrunG ⟨x.w, x.h, x.b, x.a⟩ l [r] 3 1 = ⟨(mrunG x l [r] 3 1).w, (mrunG x l [r] 3 1).h, (mrunG x l [r] 3 1).b, (mrunG x l [r] 3 1).a⟩)) := by
  by_cases h : mrunE x l [r] 3 1 = 0
  · obtain ⟨h1, h2, h3, h4⟩ := mrunE_zero h
    refine .inr ⟨h, h1, mrunG_ok h, by simp [Mix.err, h1], by simp [Mix.err, mrunG_ok h], ?_⟩
    by_cases hk : r.k = 2
    · exact .inl hk
    · have hc : mrunE (swapM x) l [r] 3 1 = 0 := mrunE_mk (swap_ok h1) h2 h3 h4
      refine .inr ⟨hk, hc, ?_⟩
      show mrunG (swapM x) l [r] 3 1 = swapM (mrunG x l [r] 3 1)
      have hr : r.ok = true := (rulesB_iff.1 h3).2 r (by simp)
      rw [mrunG_eq hc, mrunG_eq h]
      have e1 : (1 : Int).toNat = 0 + 1 := rfl
      have z := zA_swap (f := mfw (rho l 3 0) (rho [r] 3 0)) (fun p => fw_swap (by rw [rho_one]; exact hr) (by rw [rho_one]; exact hk) p) (mix_len h1)
      simp only [e1, mrun, swapM, z.1, z.2]
  · refine .inl ⟨h, trivial, trivial, trivial, trivial, ?_⟩
    by_cases hk : r.k = 2
    · exact .inl hk
    · exact .inr ⟨hk, trivial, trivial⟩
end Go.Sy
